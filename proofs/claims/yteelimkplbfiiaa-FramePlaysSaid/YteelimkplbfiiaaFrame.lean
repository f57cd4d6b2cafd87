/- Layer 17: frames on a stack: each call, by what is seen of the stack. -/
import Derived.Test.YteelimkplbfiiaaRow1
namespace Go.Pg
open Go.Proofs

abbrev PA (b : Nat) : Addr := ⟨b, 0, some 0⟩
abbrev PV (b : Nat) : Value := .pointer (some (PA b))

structure Fr where
  b : Nat
  sb : Nat
  ab : Nat
  back : Int
  call : Int
  sl : List Int
  ad : List Int
def own (f : Fr) (i : Nat) : Prop := i = f.b ∨ i = f.sb ∨ i = f.ab
def FrOK (σ : AHeap) (f : Fr) : Prop := f.b ≠ f.sb ∧ ∃ soff ss scap ap acap,
  St σ f.b [.int .i64 f.back, .int .i64 f.call, .slice (some ⟨f.sb, soff, some ss⟩) f.sl.length scap, .slice ap f.ad.length acap] ∧ Row σ f.sb soff ss scap 1 (ints .u64 f.sl) ∧ SlV σ f.ab ap acap (ints .u64 f.ad) ∧ (ap ≠ none → f.ab ≠ f.b ∧ f.ab ≠ f.sb)
def fsize (f : Fr) : Nat := 2 + f.sl.length + f.ad.length
def total : List Fr → Nat
  | [] => 0
  | f :: l => fsize f + total l
theorem total_append (a b : List Fr) : total (a ++ b) = total a + total b := by
  induction a with
  | nil => simp [total]
  | cons f a ih => simp [total, ih, Nat.add_assoc]
theorem total_snoc (a : List Fr) (f : Fr) : total (a ++ [f]) = total a + fsize f := by rw [total_append]; rfl
theorem total_len (a : List Fr) : 2 * a.length ≤ total a := by
  induction a with
  | nil => simp [total]
  | cons f a ih => simp only [total, fsize, List.length_cons]; omega

theorem FrOK.frm {σ σ' : AHeap} {T : Nat → Prop} {f : Fr} (h : FrOK σ f) (k : Frm σ σ' T) (ho : ∀ i, own f i → ¬ T i) : FrOK σ' f := by
  obtain ⟨h1, soff, ss, scap, ap, acap, h2, h3, h4, h5⟩ := h
  exact ⟨h1, soff, ss, scap, ap, acap, k.st h2 (ho _ (.inl rfl)), k.row h3 (ho _ (.inr (.inl rfl))), h4.frm k fun _ => ho _ (.inr (.inr rfl)), h5⟩

structure FS (σ : AHeap) (S c : Nat) (room : Nat) (frs : List Fr) : Prop where
  rm : room ≤ 4096
  fit : total frs ≤ room
  blk : ∃ p cap, St σ S [.int .i64 (room : Int), .int .i64 ((total frs : Nat) : Int), .slice p frs.length cap] ∧ SlV σ c p cap (frs.map fun f => PV f.b) ∧ (p ≠ none → c ≠ S)
  ok : ∀ f ∈ frs, FrOK σ f
  out : ∀ f ∈ frs, ∀ i, own f i → i < σ.n ∧ i ≠ S ∧ i ≠ c
  sep : frs.Pairwise fun f g => ∀ i, own f i → ¬ own g i

theorem FS.frm {σ σ' : AHeap} {T : Nat → Prop} {S c room : Nat} {frs : List Fr} (h : FS σ S c room frs) (k : Frm σ σ' T) (hS : ¬ T S) (hc : ¬ T c) (ho : ∀ f ∈ frs, ∀ i, own f i → ¬ T i) : FS σ' S c room frs := by
  obtain ⟨p, cap, h1, h2, h3⟩ := h.blk
  exact ⟨h.rm, h.fit, ⟨p, cap, k.st h1 hS, h2.frm k fun _ => hc, h3⟩, fun f hf => (h.ok f hf).frm k (ho f hf), fun f hf i hi => ⟨Nat.lt_of_lt_of_le (h.out f hf i hi).1 k.n, (h.out f hf i hi).2⟩, h.sep⟩

theorem FS.lt {σ : AHeap} {S c room : Nat} {frs : List Fr} (h : FS σ S c room frs) : S < σ.n := by
  obtain ⟨p, cap, h1, _⟩ := h.blk
  exact h1.1

theorem ints_len (k : IntKind) (l : List Int) : (ints k l).length = l.length := by simp

section
variable {σ : AHeap} {S c room : Nat} {fs : List Fr} {f : Fr}

theorem ev_size (h : FrOK σ f) (hs : fsize f ≤ 100000) : EvF PROG ov0 38 [PV f.b] σ (.int .i64 ((fsize f : Nat) : Int)) σ := by
  obtain ⟨_, soff, ss, scap, ap, acap, h2, _⟩ := h
  unfold fsize at hs
  have e : wi64 (wi64 (2 + ((f.sl.length : Nat) : Int)) + ((f.ad.length : Nat) : Int)) = ((fsize f : Nat) : Int) := by
    rw [wi64_in (n := 2 + ((f.sl.length : Nat) : Int)) (by omega), wi64_in (by omega)]
    unfold fsize
    omega
  refine EvF.of (T38_eq _) rfl ?_
  rw [T38]
  simp only [asSome_some]
  rw [wp_ldF h2 rfl, asSlice_slice, wp_ldF h2 rfl, asSlice_slice, wp_ret, e]
  exact ⟨rfl, rfl⟩

theorem ev_top_none (h : FS σ S c room []) : EvF PROG ov0 39 [PV S] σ (.pointer none) σ := by
  obtain ⟨p, cap, h1, _⟩ := h.blk
  refine EvF.of (T39_eq _) rfl ?_
  rw [T39]
  simp only [asSome_some]
  rw [wp_ldF h1 rfl, asSlice_slice, wp_bif, if_pos (by simp), wp_ret]
  exact ⟨rfl, rfl⟩

theorem ev_top (h : FS σ S c room (fs ++ [f])) : EvF PROG ov0 39 [PV S] σ (PV f.b) σ := by
  obtain ⟨p, cap, h1, h2, _⟩ := h.blk
  have hr := h.rm
  have ht := h.fit
  have hl := total_len (fs ++ [f])
  simp only [List.length_append, List.length_singleton] at hl h1
  have e : wi64 ((((fs.length + 1 : Nat) : Nat) : Int) - 1) = ((fs.length : Nat) : Int) := by rw [wi64_in (by omega)]; omega
  rcases h2 with ⟨_, _, h2⟩ | ⟨off, s, rfl, h2⟩
  · simp at h2
  refine EvF.of (T39_eq _) rfl ?_
  rw [T39]
  simp only [asSome_some]
  rw [wp_ldF h1 rfl, asSlice_slice, wp_bif, if_neg (by simp; omega), wp_ldF h1 rfl, asSlice_slice, wp_ldF h1 rfl, asSlice_slice, e]
  simp only [asSome_some]
  rw [wp_grd]
  refine ⟨by simp; omega, ?_⟩
  rw [Int.toNat_natCast, wp_rowR (v := PV f.b) h2 (by simp), asPtr_ptr, wp_ret]
  exact ⟨rfl, rfl⟩

theorem ev_depth {frs : List Fr} (h : FS σ S c room frs) : EvF PROG ov0 15 [PV S] σ (.int .i64 ((frs.length : Nat) : Int)) σ := by
  obtain ⟨p, cap, h1, _⟩ := h.blk
  refine EvF.of (T15_eq _) rfl ?_
  rw [T15]
  simp only [asSome_some]
  rw [wp_ldF h1 rfl, asSlice_slice, wp_ret]
  exact ⟨rfl, rfl⟩

/-- New. -/
theorem wp_newS (n : Nat) (hn : 16 ≤ n ∧ n ≤ 4096) {Q : Value → AHeap → Prop} (hQ : ∀ σ', Frm σ σ' NoB → FS σ' σ.n σ.n n [] → Q (.tuple #[PV σ.n, .int .i64 0]) σ') : WpF PROG ov0 8 [.int .i64 (n : Int)] σ Q := by
  refine WpF.of (T8_eq _) rfl ?_
  rw [T8, wp_bif, if_neg (by simp; omega)]
  refine wp_newQ fun σ1 hF1 hn1 hS1 => ?_
  rw [wp_ret]
  refine ⟨_, rfl, hQ _ hF1 ⟨hn.2, by simp [total], ⟨none, 0, hS1, .inl ⟨rfl, rfl, rfl⟩, fun h => by simp at h⟩, (fun f hf => by cases hf), (fun f hf => by cases hf), .nil⟩⟩

theorem num_zero : (orI .u64 (shlI .u64 (wu64 0) 1) 1) = 1 := by decide +kernel
theorem ev_num0 : EvF PROG ov0 22 [.int .i64 0] σ (.int .u64 1) σ := by
  refine EvF.of (T22_eq _) rfl ?_
  rw [T22, wp_ret, num_zero]
  exact ⟨rfl, rfl⟩

/-- Push, where there is room. -/
theorem wp_push (h : FS σ S c room fs) (back call : Int) (n : Nat) (hn : total fs + 2 + n ≤ room) {Q : Value → AHeap → Prop}
    (hQ : ∀ σ' c' f', Frm σ σ' (fun j => j = S ∨ j = c) → (c' = c ∨ σ.n ≤ c') → f'.back = back → f'.call = call → f'.sl = List.replicate n 1 → f'.ad = [] → (∀ i, own f' i → σ.n ≤ i) → FS σ' S c' room (fs ++ [f']) → Q (.int .i64 0) σ') :
    WpF PROG ov0 9 [PV S, .int .i64 back, .int .i64 call, .int .i64 (n : Int)] σ Q := by
  obtain ⟨p, cap, h1, h2, h3⟩ := h.blk
  have hr := h.rm
  have hl := total_len fs
  have e1 : wi64 (wi64 ((room : Int) - ((total fs : Nat) : Int)) - 2) = (room : Int) - ((total fs : Nat) : Int) - 2 := by
    rw [wi64_in (n := (room : Int) - ((total fs : Nat) : Int)) (by omega), wi64_in (by omega)]
  refine WpF.of (T9_eq _ _ _ _) rfl ?_
  rw [T9, wp_join, wp_bif, if_neg (by simp)]
  simp only [asSome_some]
  rw [wp_ldF h1 rfl, asInt_int, wp_ldF h1 rfl, asInt_int, e1, wp_bif, if_neg (by simp; omega), wp_ret]
  simp only [T9k2, sw_nr, sw_same, asCons_cons, asInt_int, asNil_nil]
  rw [wp_act, mkSl_eq _ _ _ _ _ (by omega), rep_1]
  simp only [asSlice_slice]
  have hFa := Frm.new σ (List.replicate n (.int .u64 0)) 1 NoB
  have hRa := Row.new σ 1 (List.replicate n (.int .u64 0)) n (by decide) (by simp) (by intro x hx; rw [List.mem_replicate] at hx; rw [hx.2]; rfl)
  have hna : (σ.newBlk (List.replicate n (.int .u64 0)) 1).n = σ.n + 1 := rfl
  generalize σ.newBlk (List.replicate n (.int .u64 0)) 1 = σa at hFa hRa hna
  refine wp_newQ fun σb hFb hnb hSb => ?_
  have hRb := hFb.rowN hRa
  rw [wp_ldF hSb rfl, asSlice_slice]
  refine Wp.count n (fun j st σ' => st = [.int .i64 ((j : Nat) : Int)] ∧ Frm σb σ' (· = σ.n) ∧ Row σ' σ.n 0 1 n 1 (ints .u64 (List.replicate j 1 ++ List.replicate (n - j) 0))) ⟨rfl, Frm.refl _ _, by simpa [ints] using hRb⟩ ?_ ?_
  · rintro j st σ1 hj ⟨rfl, hF1, hR1⟩
    have hS1 := hF1.st hSb (by omega)
    have ej : wi64 ((j : Int) + 1) = (j : Int) + 1 := wi64_in (by omega)
    simp only [T9b0, asCons_cons, asInt_int, asNil_nil]
    rw [wp_bif, if_pos (by simp; omega), wp_join, wp_ldF hS1 rfl, asSlice_slice, wp_call, WpF.eq ev_num0, asInt_int, wp_get, wp_grd]
    refine ⟨chks_one (hS1.ldF rfl), ?_⟩
    simp only [asSome_some]
    rw [wp_grd]
    refine ⟨by simp; omega, ?_⟩
    rw [Int.toNat_natCast]
    refine wp_rowW hR1 (by simp; omega) rfl fun σ2 hF2 hn2 hR2 => ?_
    rw [wp_ret]
    simp only [T9k0, sw_same, asNil_nil, wp_ret, ej]
    refine ⟨by simp, hF1.seq hF2, ?_⟩
    have e : (ints .u64 (List.replicate j 1 ++ List.replicate (n - j) 0)).set j (.int .u64 1) = ints .u64 (List.replicate (j + 1) 1 ++ List.replicate (n - (j + 1)) 0) := by
      unfold ints
      rw [show n - j = (n - (j + 1)) + 1 by omega, List.replicate_succ, List.map_append, List.map_cons, List.set_append_right _ _ (by simp)]
      simp [List.replicate_succ']
    rw [e] at hR2
    exact hR2
  · rintro st σ1 ⟨rfl, hF1, hR1⟩
    simp only [T9b0, asCons_cons, asInt_int, asNil_nil]
    rw [wp_bif, if_neg (by simp), wp_ret]
    simp only [T9k1, sw_same, asCons_cons, asInt_int, asNil_nil, asSome_some]
    have hSn := h1.1
    have hF01 : Frm σ σ1 NoB := (hFa.seq hFb).fresh hF1 fun j hj h => by omega
    have h1a := hF01.stN h1
    have h2a := h2.frm hF01 fun _ h => h
    have hSb1 := hF1.st hSb (by omega)
    have hn1 := hF1.n
    rw [wp_ldF h1a rfl, asSlice_slice]
    have hR1' : Row σ1 σ.n 0 1 n 1 (ints .u64 (List.replicate n 1)) := by simpa using hR1
    have hcn : p ≠ none → c < σ.n := by
      intro hp
      rcases h2 with ⟨rfl, _⟩ | ⟨off, s, rfl, h2⟩
      · exact absurd rfl hp
      · exact h2.lt
    refine wp_app1 h2a (by simp) rfl (by omega) (by omega) fun σ2 c' off s cap' hF2 hc' hR2 => ?_
    have h1b := hF2.st h1a fun ⟨hp, he⟩ => h3 hp he.symm
    refine wp_st1Q h1b (by simp) rfl fun σ3 hF3 hn3 hS3 => ?_
    have hn2 := hF2.n
    have hf' : ∃ f' : Fr, f' = ⟨σ.n + 1, σ.n, σ.n + 1, back, call, List.replicate n 1, []⟩ := ⟨_, rfl⟩
    obtain ⟨f', hf'⟩ := hf'
    have hSb3 := hF3.st (hF2.st hSb1 fun ⟨hp, he⟩ => by have := hcn hp; omega) (by omega)
    have hR3 := hF3.row (hF2.row hR1' fun ⟨hp, he⟩ => by have := hcn hp; omega) (by omega)
    have hOK : FrOK σ3 f' := by
      subst hf'
      refine ⟨by simp, 0, 1, n, none, 0, ?_, hR3, .inl ⟨rfl, rfl, rfl⟩, fun h => by simp at h⟩
      simp only [List.length_replicate, List.length_nil]
      rw [← hna]
      exact hSb3
    have hfs : fsize f' = 2 + n := by subst hf'; simp [fsize]
    have hfb : f'.b = σa.n := by subst hf'; exact hna.symm
    have hc3 : c' ≠ S ∧ c' ≠ σ.n ∧ c' ≠ σ.n + 1 ∧ c' < σ3.n := by
      have := hR2.lt
      rcases hc' with ⟨hp, rfl⟩ | hc'
      · have := hcn hp
        exact ⟨h3 hp, by omega, by omega, by omega⟩
      · omega
    rw [wp_ldF hS3 rfl, asInt_int, wp_call, ← hfb, WpF.eq (ev_size hOK (by omega)), asInt_int, wp_get, wp_grd]
    refine ⟨chks_one (hS3.ldF rfl), ?_⟩
    refine wp_st1Q hS3 (by simp) rfl fun σ4 hF4 hn4 hS4 => ?_
    rw [wp_ret]
    have hF : Frm σ σ4 (fun j => j = S ∨ j = c) := by
      refine hF01.trans (hF2.trans (hF3.seq hF4) (U := fun j => j = S ∨ j = c) (fun j _ h => .inr h.2) (fun j _ h => .inl h)) (fun _ _ h => h.elim) (fun _ _ h => h)
    refine ⟨_, rfl, hQ σ4 c' f' hF (hc'.imp (fun h => h.2) fun h => by omega) (by subst hf'; rfl) (by subst hf'; rfl) (by subst hf'; rfl) (by subst hf'; rfl) (by subst hf'; intro i hi; unfold own at hi; simp at hi; omega) ?_⟩
    have hnew : ∀ i, own f' i → σ.n ≤ i ∧ i < σ4.n ∧ i ≠ S ∧ i ≠ c' := by
      subst hf'
      intro i hi
      unfold own at hi
      simp only at hi
      omega
    have hold : ∀ g ∈ fs, ∀ i, own g i → i < σ.n ∧ i ≠ S ∧ i ≠ c := h.out
    have et : wi64 (((total fs : Nat) : Int) + ((fsize f' : Nat) : Int)) = ((total (fs ++ [f']) : Nat) : Int) := by
      rw [total_snoc, wi64_in (by omega)]
      omega
    refine ⟨hr, by rw [total_snoc]; omega, ⟨some ⟨c', off, some s⟩, cap', ?_, .inr ⟨off, s, rfl, ?_⟩, fun _ => hc3.1⟩, ?_, ?_, ?_⟩
    · rw [← et, List.length_append, List.length_singleton]
      exact hS4
    · rw [List.map_append, List.map_cons, List.map_nil, hfb]
      exact hF4.row (hF3.row hR2 hc3.1) hc3.1
    · intro g hg
      rcases List.mem_append.1 hg with hg | hg
      · exact (h.ok g hg).frm hF fun i hi hT => by have := hold g hg i hi; omega
      · simp at hg
        subst hg
        exact hOK.frm hF4 fun i hi hT => by have := hnew i hi; omega
    · intro g hg i hi
      rcases List.mem_append.1 hg with hg | hg
      · have := hold g hg i hi
        refine ⟨by omega, this.2.1, ?_⟩
        rcases hc' with ⟨_, rfl⟩ | hc'
        · exact this.2.2
        · omega
      · simp at hg
        subst hg
        exact (hnew i hi).2
    · rw [List.pairwise_append]
      refine ⟨h.sep, by simp, fun g hg k hk i hi hi' => ?_⟩
      simp at hk
      subst hk
      have := hold g hg i hi
      have := hnew i hi'
      omega
end
end Go.Pg
