/- Layer 17: frames on a stack: Add, Set, Get, Take, Pop. -/
import Derived.Test.YteelimkplbfiiaaFrame2
namespace Go.Pg
open Go.Proofs
section
variable {σ : AHeap} {S room : Nat} {Y : Nat → Prop} {vs : List Fv} {v : Fv}

theorem Stk.topTo {σ' : AHeap} {c : Nat} {fs : List Fr} {f f' : Fr} (h0 : ∀ i, Y i → i < σ.n) (hY : ∀ i, Y i → i ≠ S ∧ i ≠ c ∧ (∀ g ∈ fs, ¬ own g i) ∧ ¬ own f i) (hn : σ.n ≤ σ'.n) (h : FS σ' S c room (fs ++ [f'])) (ho : ∀ i, own f' i → own f i ∨ σ.n ≤ i) : Stk σ' S room Y (fs.map vw ++ [vw f']) := by
  refine ⟨fun i hi => Nat.lt_of_lt_of_le (h0 i hi) hn, c, fs ++ [f'], h, by simp, fun i hi => ⟨(hY i hi).1, (hY i hi).2.1, fun g hg hog => ?_⟩⟩
  rcases List.mem_append.1 hg with hg | hg
  · exact (hY i hi).2.2.1 g hg hog
  · simp at hg
    subst hg
    have := h0 i hi
    rcases ho i hog with hx | hx
    · exact (hY i hi).2.2.2 hx
    · omega

theorem ev_add_none (h : Stk σ S room Y []) (w : Int) : EvF PROG ov0 10 [PV S, .int .u64 w] σ (.int .i64 4) σ := by
  obtain ⟨c, h⟩ := h.nil
  refine EvF.of (T10_eq _ _) rfl ?_
  rw [T10, wp_call, WpF.eq (ev_top_none h)]
  simp only [asPtr_ptr]
  rw [wp_join, wp_bif, if_pos (by rfl), wp_ret]
  simp only [T10k0, sw_same, asCons_cons, asInt_int, asNil_nil]
  rw [wp_ret]
  exact ⟨rfl, rfl⟩

theorem ev_add_full (h : Stk σ S room Y (vs ++ [v])) (hr : ¬ tot (vs ++ [v]) < room) (w : Int) : EvF PROG ov0 10 [PV S, .int .u64 w] σ (.int .i64 9) σ := by
  obtain ⟨h0, c, fs, f, h1, rfl, rfl, hY⟩ := h.snoc
  obtain ⟨p, cap, h4, h5, h6⟩ := h1.blk
  have ht : total (fs ++ [f]) = tot (fs.map vw ++ [vw f]) := by rw [← tot_vw]; simp
  refine EvF.of (T10_eq _ _) rfl ?_
  rw [T10, wp_call, WpF.eq (ev_top h1)]
  simp only [asPtr_ptr, asSome_some]
  rw [wp_join, wp_bif, if_neg (by simp), wp_ldF h4 rfl, asInt_int, wp_ldF h4 rfl, asInt_int, wp_bif, if_pos (by simp; omega), wp_ret]
  simp only [T10k0, sw_same, asCons_cons, asInt_int, asNil_nil]
  rw [wp_ret]
  exact ⟨rfl, rfl⟩

theorem wp_addK (h : Stk σ S room Y (vs ++ [v])) (hr : tot (vs ++ [v]) < room) (w : Int) {Q : Value → AHeap → Prop}
    (hQ : ∀ σ', Frm σ σ' (fun j => ¬ Y j) → Stk σ' S room Y (vs ++ [⟨v.back, v.call, v.sl, v.ad ++ [w]⟩]) → Q (.int .i64 0) σ') :
    WpF PROG ov0 10 [PV S, .int .u64 w] σ Q := by
  have hfit := h.fit
  obtain ⟨h0, c, fs, f, h1, rfl, rfl, hY⟩ := h.snoc
  obtain ⟨p, cap, h4, h5, h6⟩ := h1.blk
  have ht : total (fs ++ [f]) = tot (fs.map vw ++ [vw f]) := by rw [← tot_vw]; simp
  have hsz : f.ad.length ≤ total (fs ++ [f]) := by rw [total_snoc]; unfold fsize; omega
  obtain ⟨g1, soff, ss, scap, ap, acap, g2, g3, g4, g5⟩ := h1.ok f (by simp)
  have ho := h1.out f (by simp)
  have hob := ho f.b (.inl rfl)
  have hos := ho f.sb (.inr (.inl rfl))
  have hoa := ho f.ab (.inr (.inr rfl))
  have hS := h1.lt
  refine WpF.of (T10_eq _ _) rfl ?_
  rw [T10, wp_call, WpF.eq (ev_top h1)]
  simp only [asPtr_ptr, asSome_some]
  rw [wp_join, wp_bif, if_neg (by simp), wp_ldF h4 rfl, asInt_int, wp_ldF h4 rfl, asInt_int, wp_bif, if_neg (by simp; omega), wp_ret]
  simp only [T10k0, sw_nr, sw_same, asCons_cons, asInt_int, asNil_nil, asSome_some]
  rw [wp_ldF g2 rfl, asSlice_slice]
  refine wp_app1 g4 (by simp) rfl (by omega) (by omega) fun σ1 b' off s cap' hF1 hb' hR1 => ?_
  have g2a := hF1.st g2 fun ⟨hp, he⟩ => (g5 hp).1 he.symm
  refine wp_st1Q g2a (by simp) rfl fun σ2 hF2 hn2 g2b => ?_
  have hSa := hF2.st (hF1.st h4 fun ⟨_, he⟩ => hoa.2.1 he.symm) (by omega)
  rw [wp_ldF hSa rfl, asInt_int]
  refine wp_st1Q hSa (by simp) rfl fun σ3 hF3 hn3 hS3 => ?_
  rw [wp_ret]
  have hn1 := hF1.n
  have hRlt := hR1.lt
  have hb1 : b' ≠ f.b ∧ b' ≠ f.sb ∧ b' ≠ S ∧ (b' = f.ab ∨ σ.n ≤ b') := by
    rcases hb' with ⟨hp, rfl⟩ | hb'
    · exact ⟨(g5 hp).1, (g5 hp).2, hoa.2.1, .inl rfl⟩
    · omega
  have hF : Frm σ σ3 (fun j => j = S ∨ own f j) := by
    refine hF1.trans (hF2.trans hF3 (U := fun j => j = f.b ∨ j = S) (fun j _ h => .inl h) (fun j _ h => .inr h)) (fun _ _ h => .inr (.inr (.inr h.2))) (fun _ _ h => ?_)
    rcases h with h | h
    · exact .inr (.inl h)
    · exact .inl h
  obtain ⟨f', hf'⟩ : ∃ f' : Fr, f' = ⟨f.b, f.sb, b', f.back, f.call, f.sl, f.ad ++ [w]⟩ := ⟨_, rfl⟩
  have hsz' : fsize f' = fsize f + 1 := by subst hf'; unfold fsize; simp; omega
  have ht' : total (fs ++ [f']) = total (fs ++ [f]) + 1 := by rw [total_snoc, total_snoc, hsz']; omega
  have hv : vw f' = ⟨(vw f).back, (vw f).call, (vw f).sl, (vw f).ad ++ [w]⟩ := by subst hf'; rfl
  have hok : FrOK σ3 f' := by
    have e : ints .u64 (f.ad ++ [w]) = ints .u64 f.ad ++ [.int .u64 w] := by simp [ints]
    subst hf'
    refine ⟨g1, soff, ss, scap, some ⟨b', off, some s⟩, cap', ?_, hF3.row (hF2.row (hF1.row g3 fun ⟨hp, he⟩ => (g5 hp).2 he.symm) (fun he => g1 he.symm)) hos.2.1, ?_, fun _ => ⟨hb1.1, hb1.2.1⟩⟩
    · have := hF3.st g2b hob.2.1
      simpa using this
    · rw [e]
      exact .inr ⟨off, s, rfl, hF3.row (hF2.row hR1 hb1.1) hb1.2.2.1⟩
  have hown : ∀ i, own f' i → own f i ∨ (σ.n ≤ i ∧ i < σ3.n) := by
    subst hf'
    intro i hi
    rcases hi with hi | hi | hi
    · exact .inl (.inl hi)
    · exact .inl (.inr (.inl hi))
    · simp only at hi
      rcases hb1.2.2.2 with hb | hb
      · exact .inl (.inr (.inr (hi.trans hb)))
      · exact .inr (by omega)
  have hfs := h1.top h5 h6 hF (f' := f') (by subst hf'; rfl) (by
    have e : wi64 (((total (fs ++ [f]) : Nat) : Int) + 1) = ((total (fs ++ [f']) : Nat) : Int) := by rw [wi64_in (by omega)]; omega
    rw [← e]
    exact hS3) hok hown (by omega)
  have := Stk.topTo h0 hY hF.n hfs fun i hi => (hown i hi).imp id fun h => h.1
  rw [hv] at this
  exact ⟨_, rfl, hQ σ3 (hF.mono fun j _ hj hy => by
    rcases hj with hj | hj
    · exact (hY j hy).1 hj
    · exact (hY j hy).2.2.2 hj) this⟩

theorem ev_slot_none (h : Stk σ S room Y []) (i : Int) : EvF PROG ov0 40 [PV S, .int .i64 i] σ (.tuple #[.pointer none, .int .i64 4]) σ := by
  obtain ⟨c, h⟩ := h.nil
  refine EvF.of (T40_eq _ _) rfl ?_
  rw [T40, wp_call, WpF.eq (ev_top_none h)]
  simp only [asPtr_ptr]
  rw [wp_join, wp_bif, if_pos (by rfl), wp_ret]
  simp only [T40k1, sw_same, asCons_cons, asInt_int, asPtr_ptr, asNil_nil]
  rw [wp_ret]
  exact ⟨rfl, rfl⟩

theorem ev_slot_out (h : Stk σ S room Y (vs ++ [v])) (i : Int) (hi : ¬ (0 ≤ i ∧ i < (v.sl.length : Nat))) : EvF PROG ov0 40 [PV S, .int .i64 i] σ (.tuple #[.pointer none, .int .i64 1]) σ := by
  obtain ⟨h0, c, fs, f, h1, rfl, rfl, hY⟩ := h.snoc
  obtain ⟨g1, soff, ss, scap, ap, acap, g2, g3, g4, g5⟩ := h1.ok f (by simp)
  refine EvF.of (T40_eq _ _) rfl ?_
  rw [T40, wp_call, WpF.eq (ev_top h1)]
  simp only [asPtr_ptr, asSome_some]
  rw [wp_join, wp_bif, if_neg (by simp), wp_join, wp_bif]
  by_cases h2 : i < 0
  · rw [if_neg (by simp [h2]), wp_ret]
    simp only [T40k0, sw_same, asCons_cons, asBool_bool, asNil_nil]
    rw [wp_bif, if_pos (by rfl), wp_ret]
    simp only [T40k1, sw_same, asCons_cons, asInt_int, asPtr_ptr, asNil_nil]
    rw [wp_ret]
    exact ⟨rfl, rfl⟩
  · rw [if_pos (by simp; omega), wp_ldF g2 rfl, asSlice_slice, wp_ret]
    simp only [T40k0, sw_same, asCons_cons, asBool_bool, asNil_nil]
    rw [wp_bif, if_pos (by simp; simp [vw] at hi; omega), wp_ret]
    simp only [T40k1, sw_same, asCons_cons, asInt_int, asPtr_ptr, asNil_nil]
    rw [wp_ret]
    exact ⟨rfl, rfl⟩

theorem ev_slot {c : Nat} {fs : List Fr} {f : Fr} (h1 : FS σ S c room (fs ++ [f])) {soff ss scap : Nat} {x y z : Value} (g2 : St σ f.b [x, y, .slice (some ⟨f.sb, soff, some ss⟩) f.sl.length scap, z]) (i : Nat) (hi : i < f.sl.length) : EvF PROG ov0 40 [PV S, .int .i64 (i : Int)] σ (.tuple #[.pointer (some (aadd ⟨f.sb, soff, some ss⟩ (i * 1))), .int .i64 0]) σ := by
  refine EvF.of (T40_eq _ _) rfl ?_
  rw [T40, wp_call, WpF.eq (ev_top h1)]
  simp only [asPtr_ptr, asSome_some]
  rw [wp_join, wp_bif, if_neg (by simp), wp_join, wp_bif, if_pos (by simp), wp_ldF g2 rfl, asSlice_slice, wp_ret]
  simp only [T40k0, sw_same, asCons_cons, asBool_bool, asNil_nil]
  rw [wp_bif, if_neg (by simp; omega), wp_ret]
  simp only [T40k1, sw_nr, sw_same, asCons_cons, asInt_int, asPtr_ptr, asNil_nil, asSome_some]
  rw [wp_ldF g2 rfl, asSlice_slice]
  simp only [asSome_some]
  rw [wp_grd]
  refine ⟨by simp; omega, ?_⟩
  rw [wp_ret]
  exact ⟨rfl, rfl⟩

theorem ev_set_none (h : Stk σ S room Y []) (i w : Int) : EvF PROG ov0 11 [PV S, .int .i64 i, .int .u64 w] σ (.int .i64 4) σ := by
  refine EvF.of (T11_eq _ _ _) rfl ?_
  rw [T11, wp_call, WpF.eq (ev_slot_none h i)]
  simp only [asTuple_tuple, asCons_cons, asPtr_ptr, asInt_int, asNil_nil]
  rw [wp_join, wp_bif, if_neg (by simp), wp_ret]
  simp only [T11k0, sw_same, asNil_nil]
  rw [wp_ret]
  exact ⟨rfl, rfl⟩

theorem ev_set_out (h : Stk σ S room Y (vs ++ [v])) (i w : Int) (hi : ¬ (0 ≤ i ∧ i < (v.sl.length : Nat))) : EvF PROG ov0 11 [PV S, .int .i64 i, .int .u64 w] σ (.int .i64 1) σ := by
  refine EvF.of (T11_eq _ _ _) rfl ?_
  rw [T11, wp_call, WpF.eq (ev_slot_out h i hi)]
  simp only [asTuple_tuple, asCons_cons, asPtr_ptr, asInt_int, asNil_nil]
  rw [wp_join, wp_bif, if_neg (by simp), wp_ret]
  simp only [T11k0, sw_same, asNil_nil]
  rw [wp_ret]
  exact ⟨rfl, rfl⟩

theorem wp_setK (h : Stk σ S room Y (vs ++ [v])) (i : Nat) (w : Int) (hi : i < v.sl.length) {Q : Value → AHeap → Prop}
    (hQ : ∀ σ', Frm σ σ' (fun j => ¬ Y j) → Stk σ' S room Y (vs ++ [⟨v.back, v.call, v.sl.set i w, v.ad⟩]) → Q (.int .i64 0) σ') :
    WpF PROG ov0 11 [PV S, .int .i64 (i : Int), .int .u64 w] σ Q := by
  obtain ⟨h0, c, fs, f, h1, rfl, rfl, hY⟩ := h.snoc
  obtain ⟨p, cap, h4, h5, h6⟩ := h1.blk
  obtain ⟨g1, soff, ss, scap, ap, acap, g2, g3, g4, g5⟩ := h1.ok f (by simp)
  have ho := h1.out f (by simp)
  have hos := ho f.sb (.inr (.inl rfl))
  simp only [vw] at hi
  refine WpF.of (T11_eq _ _ _) rfl ?_
  rw [T11, wp_call, WpF.eq (ev_slot h1 g2 i hi)]
  simp only [asTuple_tuple, asCons_cons, asPtr_ptr, asInt_int, asNil_nil, asSome_some]
  rw [wp_join, wp_bif, if_pos (by rfl)]
  refine wp_rowW g3 (by simpa using hi) rfl fun σ1 hF1 hn1 hR1 => ?_
  rw [wp_ret]
  simp only [T11k0, sw_same, asNil_nil]
  rw [wp_ret]
  obtain ⟨f', hf'⟩ : ∃ f' : Fr, f' = ⟨f.b, f.sb, f.ab, f.back, f.call, f.sl.set i w, f.ad⟩ := ⟨_, rfl⟩
  have hsz' : fsize f' = fsize f := by subst hf'; unfold fsize; simp
  have ht' : total (fs ++ [f']) = total (fs ++ [f]) := by rw [total_snoc, total_snoc, hsz']
  have hown : ∀ i, own f' i → own f i ∨ (σ.n ≤ i ∧ i < σ1.n) := by
    subst hf'
    intro i hi
    exact .inl hi
  have hok : FrOK σ1 f' := by
    subst hf'
    refine ⟨g1, soff, ss, scap, ap, acap, ?_, ?_, g4.frm hF1 fun hp he => (g5 hp).2 he, g5⟩
    · have := hF1.st g2 g1
      simpa using this
    · have e : ints .u64 (f.sl.set i w) = (ints .u64 f.sl).set i (.int .u64 w) := by simp [ints, List.map_set]
      rw [e]
      exact hR1
  have hF : Frm σ σ1 (fun j => j = S ∨ own f j) := hF1.mono fun j _ hj => .inr (.inr (.inl hj))
  have hfs := h1.top h5 h6 hF (f' := f') (by subst hf'; rfl) (by rw [ht']; exact hF1.st h4 hos.2.1.symm) hok hown (by rw [ht']; exact h1.fit)
  have := Stk.topTo h0 hY hF.n hfs fun i hi => (hown i hi).imp id fun h => h.1
  refine ⟨_, rfl, hQ σ1 (hF.mono fun j _ hj hy => by
    rcases hj with hj | hj
    · exact (hY j hy).1 hj
    · exact (hY j hy).2.2.2 hj) ?_⟩
  subst hf'
  exact this

theorem ev_getK (h : Stk σ S room Y (vs ++ [v])) (i : Nat) (hi : i < v.sl.length) : EvF PROG ov0 12 [PV S, .int .i64 (i : Int)] σ (.tuple #[.int .u64 (v.sl.getD i 0), .int .i64 0]) σ := by
  obtain ⟨h0, c, fs, f, h1, rfl, rfl, hY⟩ := h.snoc
  obtain ⟨g1, soff, ss, scap, ap, acap, g2, g3, g4, g5⟩ := h1.ok f (by simp)
  simp only [vw] at hi
  refine EvF.of (T12_eq _ _) rfl ?_
  rw [T12, wp_call, WpF.eq (ev_slot h1 g2 i hi)]
  simp only [asTuple_tuple, asCons_cons, asPtr_ptr, asInt_int, asNil_nil, asSome_some]
  rw [wp_bif, if_neg (by simp), wp_rowR g3 (ints_get hi), asInt_int, wp_ret]
  exact ⟨rfl, rfl⟩

theorem ev_take_none (h : Stk σ S room Y []) : EvF PROG ov0 13 [PV S] σ (.tuple #[.int .u64 0, .int .i64 4]) σ := by
  obtain ⟨c, h⟩ := h.nil
  refine EvF.of (T13_eq _) rfl ?_
  rw [T13, wp_call, WpF.eq (ev_top_none h)]
  simp only [asPtr_ptr]
  rw [wp_join, wp_bif, if_neg (by simp), wp_ret]
  simp only [T13k0, sw_same, asCons_cons, asBool_bool, asNil_nil]
  rw [wp_bif, if_pos (by rfl), wp_ret]
  exact ⟨rfl, rfl⟩

theorem wp_takeK (h : Stk σ S room Y (vs ++ [v])) {l : List Int} {w : Int} (hl : v.ad = l ++ [w]) {Q : Value → AHeap → Prop}
    (hQ : ∀ σ', Frm σ σ' (fun j => ¬ Y j) → Stk σ' S room Y (vs ++ [⟨v.back, v.call, v.sl, l⟩]) → Q (.tuple #[.int .u64 w, .int .i64 0]) σ') :
    WpF PROG ov0 13 [PV S] σ Q := by
  have hfit := h.fit
  obtain ⟨h0, c, fs, f, h1, rfl, rfl, hY⟩ := h.snoc
  obtain ⟨p, cap, h4, h5, h6⟩ := h1.blk
  have ht : total (fs ++ [f]) = tot (fs.map vw ++ [vw f]) := by rw [← tot_vw]; simp
  have hsz : f.ad.length ≤ total (fs ++ [f]) := by rw [total_snoc]; unfold fsize; omega
  obtain ⟨g1, soff, ss, scap, ap, acap, g2, g3, g4, g5⟩ := h1.ok f (by simp)
  have ho := h1.out f (by simp)
  have hob := ho f.b (.inl rfl)
  have hos := ho f.sb (.inr (.inl rfl))
  have hoa := ho f.ab (.inr (.inr rfl))
  have hS := h1.lt
  simp only [vw] at hl
  have hlen : f.ad.length = l.length + 1 := by rw [hl]; simp
  rcases g4 with ⟨_, _, g4⟩ | ⟨aoff, ass, rfl, g4⟩
  · rw [hl] at g4; simp [ints] at g4
  refine WpF.of (T13_eq _) rfl ?_
  have el : wi64 (((f.ad.length : Nat) : Int) - 1) = ((l.length : Nat) : Int) := by rw [wi64_in (by omega)]; omega
  have ew : (ints .u64 f.ad)[l.length]? = some (.int .u64 w) := by rw [hl]; simp [ints]
  have hcap : f.ad.length ≤ acap := by
    have := g4.len
    simp at this
    omega
  rw [T13, wp_call, WpF.eq (ev_top h1)]
  simp only [asPtr_ptr, asSome_some]
  rw [wp_join, wp_bif, if_pos (by rfl), wp_ldF g2 rfl, asSlice_slice, wp_ret]
  simp only [T13k0, sw_same, asCons_cons, asBool_bool, asNil_nil]
  rw [wp_bif, if_neg (by simp [hl]; omega)]
  simp only [asSome_some]
  rw [wp_ldF g2 rfl, asSlice_slice, wp_ldF g2 rfl, asSlice_slice, el]
  simp only [asSome_some]
  rw [wp_grd]
  refine ⟨by simp; omega, ?_⟩
  rw [Int.toNat_natCast, wp_rowR g4 ew, asInt_int, wp_ldF g2 rfl, asSlice_slice, wp_grd]
  refine ⟨by simp; omega, ?_⟩
  refine wp_st1Q g2 (by simp) rfl fun σ1 hF1 hn1 hb1 => ?_
  have h4a := hF1.st h4 hob.2.1.symm
  rw [wp_ldF h4a rfl, asInt_int]
  refine wp_st1Q h4a (by simp) rfl fun σ2 hF2 hn2 hS2 => ?_
  rw [wp_ret]
  obtain ⟨f', hf'⟩ : ∃ f' : Fr, f' = ⟨f.b, f.sb, f.ab, f.back, f.call, f.sl, l⟩ := ⟨_, rfl⟩
  have hsz' : fsize f' + 1 = fsize f := by subst hf'; unfold fsize; simp; omega
  have ht' : total (fs ++ [f']) + 1 = total (fs ++ [f]) := by rw [total_snoc, total_snoc]; omega
  have hown : ∀ i, own f' i → own f i ∨ (σ.n ≤ i ∧ i < σ2.n) := by
    subst hf'
    intro i hi
    exact .inl hi
  have hok : FrOK σ2 f' := by
    subst hf'
    refine ⟨g1, soff, ss, scap, some ⟨f.ab, aoff, some ass⟩, acap, ?_, hF2.row (hF1.row g3 fun he => g1 he.symm) hos.2.1, .inr ⟨aoff, ass, rfl, ?_⟩, g5⟩
    · exact hF2.st hb1 hob.2.1
    · have := (hF2.row (hF1.row g4 (g5 (by simp)).1) hoa.2.1).take l.length
      have e : (ints .u64 f.ad).take l.length = ints .u64 l := by rw [hl]; simp [ints]
      rw [e] at this
      exact this
  have hF : Frm σ σ2 (fun j => j = S ∨ own f j) := hF1.trans hF2 (fun j _ h => .inr (.inl h)) (fun j _ h => .inl h)
  have hfs := h1.top h5 h6 hF (f' := f') (by subst hf'; rfl) (by
    have e : wi64 (((total (fs ++ [f]) : Nat) : Int) - 1) = ((total (fs ++ [f']) : Nat) : Int) := by rw [wi64_in (by omega)]; omega
    rw [← e]
    exact hS2) hok hown (by have := h1.fit; omega)
  have := Stk.topTo h0 hY hF.n hfs fun i hi => (hown i hi).imp id fun h => h.1
  refine ⟨_, rfl, hQ σ2 (hF.mono fun j _ hj hy => by
    rcases hj with hj | hj
    · exact (hY j hy).1 hj
    · exact (hY j hy).2.2.2 hj) ?_⟩
  subst hf'
  exact this

theorem ev_pop_none (h : Stk σ S room Y []) : EvF PROG ov0 14 [PV S] σ (.tuple #[.int .i64 0, .int .i64 0, .int .i64 4]) σ := by
  obtain ⟨c, h⟩ := h.nil
  refine EvF.of (T14_eq _) rfl ?_
  rw [T14, wp_call, WpF.eq (ev_top_none h)]
  simp only [asPtr_ptr]
  rw [wp_bif, if_pos (by rfl), wp_ret]
  exact ⟨rfl, rfl⟩

theorem wp_dropK {c : Nat} {fs : List Fr} {f : Fr} (h1 : FS σ S c room (fs ++ [f])) {Q : Value → AHeap → Prop} (hQ : ∀ σ', Frm σ σ' (· = S) → FS σ' S c room fs → Q (.tuple #[]) σ') : WpF PROG ov0 41 [PV S] σ Q := by
  obtain ⟨p, cap, h4, h5, h6⟩ := h1.blk
  have hrm := h1.rm
  have hfit := h1.fit
  have htl := total_snoc fs f
  have hlen := total_len (fs ++ [f])
  rcases h5 with ⟨_, _, h5⟩ | ⟨off, s, rfl, h5⟩
  · simp at h5
  have hcap : fs.length + 1 ≤ cap := by
    have := h5.len
    simp at this
    omega
  simp only [List.length_append, List.length_singleton] at hlen
  have ho := h1.out f (by simp)
  refine WpF.of (T41_eq _) rfl ?_
  rw [T41]
  simp only [asSome_some]
  rw [wp_ldF h4 rfl, asInt_int, wp_call, WpF.eq (ev_top h1)]
  simp only [asPtr_ptr]
  rw [wp_get, wp_grd]
  refine ⟨chks_one (h4.ldF rfl), ?_⟩
  rw [wp_call, WpF.eq (ev_size (h1.ok f (by simp)) (by omega)), asInt_int, wp_get, wp_grd]
  refine ⟨chks_one (h4.ldF rfl), ?_⟩
  refine wp_st1Q h4 (by simp) rfl fun σ1 hF1 hn1 hS1 => ?_
  have el : wi64 ((((fs ++ [f]).length : Nat) : Int) - 1) = ((fs.length : Nat) : Int) := by rw [List.length_append, List.length_singleton, wi64_in (by omega)]; omega
  have et : wi64 (((total (fs ++ [f]) : Nat) : Int) - ((fsize f : Nat) : Int)) = ((total fs : Nat) : Int) := by rw [wi64_in (by omega)]; omega
  simp only [List.set_cons_succ, List.set_cons_zero, et] at hS1
  rw [wp_ldF hS1 rfl, asSlice_slice, wp_ldF hS1 rfl, asSlice_slice, el, wp_grd]
  refine ⟨by simp; omega, ?_⟩
  refine wp_st1Q hS1 (by simp) rfl fun σ2 hF2 hn2 hS2 => ?_
  rw [wp_ret]
  have hF := hF1.seq hF2
  have hsep := List.pairwise_append.1 h1.sep
  refine ⟨_, rfl, hQ σ2 hF ⟨hrm, by omega, ⟨some ⟨c, off, some s⟩, cap, hS2, .inr ⟨off, s, rfl, ?_⟩, h6⟩, fun g hg => (h1.ok g (by simp [hg])).frm hF fun i hi he => (h1.out g (by simp [hg]) i hi).2.1 he, fun g hg i hi => ?_, hsep.1⟩⟩
  · have := (hF.row h5 (h6 (by simp))).take fs.length
    have e : ((fs ++ [f]).map fun f => PV f.b).take fs.length = fs.map fun f => PV f.b := by simp
    rw [e] at this
    exact this
  · have := h1.out g (by simp [hg]) i hi
    have := hF.n
    omega

theorem wp_popK (h : Stk σ S room Y (vs ++ [v])) {Q : Value → AHeap → Prop} (hQ : ∀ σ', Frm σ σ' (fun j => ¬ Y j) → Stk σ' S room Y vs → Q (.tuple #[.int .i64 v.back, .int .i64 v.call, .int .i64 0]) σ') : WpF PROG ov0 14 [PV S] σ Q := by
  obtain ⟨h0, c, fs, f, h1, rfl, rfl, hY⟩ := h.snoc
  obtain ⟨g1, soff, ss, scap, ap, acap, g2, g3, g4, g5⟩ := h1.ok f (by simp)
  have hob := h1.out f (by simp) f.b (.inl rfl)
  refine WpF.of (T14_eq _) rfl ?_
  rw [T14, wp_call, WpF.eq (ev_top h1)]
  simp only [asPtr_ptr]
  rw [wp_bif, if_neg (by simp), wp_call]
  refine wp_dropK h1 fun σ1 hF1 hS1 => ?_
  have g2a := hF1.st g2 hob.2.1
  simp only [asTuple_tuple, asNil_nil, asSome_some]
  rw [wp_ldF g2a rfl, asInt_int, wp_ldF g2a rfl, asInt_int, wp_ret]
  refine ⟨_, rfl, hQ σ1 (hF1.mono fun j _ hj hy => (hY j hy).1 hj) ⟨fun i hi => Nat.lt_of_lt_of_le (h0 i hi) hF1.n, c, fs, hS1, rfl, fun i hi => ⟨(hY i hi).1, (hY i hi).2.1, (hY i hi).2.2.1⟩⟩⟩

theorem ev_roots_nil (h : Stk σ S room Y []) : EvF PROG ov0 16 [PV S] σ (.slice none 0 0) σ := by
  obtain ⟨c, h1⟩ := h.nil
  obtain ⟨p, cap, h4, h5, h6⟩ := h1.blk
  refine EvF.of (T16_eq _) rfl ?_
  rw [T16]
  simp only [asSome_some]
  rw [wp_ldF h4 rfl, asSlice_slice]
  refine Wp.count 0 (fun j st σ' => st = [.int .i64 ((j : Nat) : Int), .slice none 0 0] ∧ σ' = σ) ⟨rfl, rfl⟩ (fun j st σ' hj => by omega) ?_
  rintro st σ' ⟨rfl, rfl⟩
  simp only [T16b0, asCons_cons, asInt_int, asSlice_slice, asNil_nil]
  rw [wp_bif, if_neg (by simp), wp_ret]
  simp only [T16k1, sw_same, asCons_cons, asInt_int, asSlice_slice, asNil_nil]
  rw [wp_ret]
  exact ⟨rfl, rfl⟩
end
end Go.Pg
