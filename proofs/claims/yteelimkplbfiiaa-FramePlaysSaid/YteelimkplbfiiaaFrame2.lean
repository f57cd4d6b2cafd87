/- Layer 17: frames on a stack: what each call comes to, by what the stack shows. -/
import Derived.Test.YteelimkplbfiiaaFrame
namespace Go.Pg
open Go.Proofs

/-- A frame, as it shows. -/
structure Fv where
  back : Int
  call : Int
  sl : List Int
  ad : List Int
def vw (f : Fr) : Fv := ⟨f.back, f.call, f.sl, f.ad⟩
def fsz (v : Fv) : Nat := 2 + v.sl.length + v.ad.length
def tot : List Fv → Nat
  | [] => 0
  | f :: l => fsz f + tot l
theorem tot_append (a b : List Fv) : tot (a ++ b) = tot a + tot b := by
  induction a with
  | nil => simp [tot]
  | cons f a ih => simp [tot, ih, Nat.add_assoc]
theorem tot_snoc (a : List Fv) (f : Fv) : tot (a ++ [f]) = tot a + fsz f := by rw [tot_append]; rfl
theorem tot_vw (l : List Fr) : tot (l.map vw) = total l := by
  induction l with
  | nil => rfl
  | cons f l ih => rw [List.map_cons, tot, total, ih]; rfl

/-- The stack, and blocks Y that it does not have. -/
def Stk (σ : AHeap) (S room : Nat) (Y : Nat → Prop) (vs : List Fv) : Prop :=
  (∀ i, Y i → i < σ.n) ∧ ∃ c frs, FS σ S c room frs ∧ frs.map vw = vs ∧ ∀ i, Y i → i ≠ S ∧ i ≠ c ∧ ∀ f ∈ frs, ¬ own f i

theorem Stk.snoc {σ : AHeap} {S room : Nat} {Y : Nat → Prop} {vs : List Fv} {v : Fv} (h : Stk σ S room Y (vs ++ [v])) :
    (∀ i, Y i → i < σ.n) ∧ ∃ c fs f, FS σ S c room (fs ++ [f]) ∧ fs.map vw = vs ∧ vw f = v ∧ ∀ i, Y i → i ≠ S ∧ i ≠ c ∧ (∀ g ∈ fs, ¬ own g i) ∧ ¬ own f i := by
  obtain ⟨h0, c, frs, h1, h2, h3⟩ := h
  obtain ⟨fs, l2, rfl, h4, h5⟩ := List.map_eq_append_iff.1 h2
  obtain ⟨f, rfl, h6⟩ := List.map_eq_singleton_iff.1 h5
  exact ⟨h0, c, fs, f, h1, h4, h6, fun i hi => ⟨(h3 i hi).1, (h3 i hi).2.1, fun g hg => (h3 i hi).2.2 g (by simp [hg]), (h3 i hi).2.2 f (by simp)⟩⟩

theorem Stk.step {σ σ' : AHeap} {S room : Nat} {Y Y' T : Nat → Prop} {vs : List Fv} (h : Stk σ S room Y vs) (k : Frm σ σ' T) (hT : ∀ i, i < σ.n → T i → Y i) (hY : ∀ i, Y' i → i < σ'.n ∧ (Y i ∨ σ.n ≤ i)) : Stk σ' S room Y' vs := by
  obtain ⟨h0, c, frs, h1, h2, h3⟩ := h
  have hS := h1.lt
  have hk : ∀ T', (∀ i, T' i ↔ (i < σ.n ∧ T i)) → Frm σ σ' T' := fun T' e => k.mono fun j hj ht => (e j).2 ⟨hj, ht⟩
  have hF := hk (fun i => i < σ.n ∧ T i) fun i => Iff.rfl
  refine ⟨fun i hi => (hY i hi).1, ?_⟩
  by_cases hc : c < σ.n
  · refine ⟨c, frs, h1.frm hF (fun ht => (h3 S (hT S ht.1 ht.2)).1 rfl) (fun ht => (h3 c (hT c ht.1 ht.2)).2.1 rfl) (fun f hf i hi ht => (h3 i (hT i ht.1 ht.2)).2.2 f hf hi), h2, fun i hi => ?_⟩
    rcases (hY i hi).2 with hy | hn
    · exact h3 i hy
    · exact ⟨by omega, by omega, fun f hf ho => by have := (h1.out f hf i ho).1; omega⟩
  · have hp : ∀ {p : Option Addr} {cap : Nat} {xs : List Value}, SlV σ c p cap xs → p = none ∧ cap = 0 ∧ xs = [] := by
      intro p cap xs hs
      rcases hs with hs | ⟨off, s, rfl, hs⟩
      · exact hs
      · exact absurd hs.lt hc
    obtain ⟨p, cap, b1, b2, b3⟩ := h1.blk
    obtain ⟨rfl, rfl, e⟩ := hp b2
    simp at e
    subst e
    refine ⟨S, [], ⟨h1.rm, h1.fit, ⟨none, 0, hF.st b1 fun ht => (h3 S (hT S ht.1 ht.2)).1 rfl, .inl ⟨rfl, rfl, rfl⟩, fun h => by simp at h⟩, (fun f hf => by cases hf), (fun f hf => by cases hf), .nil⟩, h2, fun i hi => ?_⟩
    have : i ≠ S := by
      rcases (hY i hi).2 with hy | hn
      · exact (h3 i hy).1
      · omega
    exact ⟨this, this, fun f hf => by cases hf⟩

theorem FS.top {σ σ' : AHeap} {S c room : Nat} {fs : List Fr} {f : Fr} (h : FS σ S c room (fs ++ [f])) {p : Option Addr} {cap : Nat} (h2 : SlV σ c p cap ((fs ++ [f]).map fun f => PV f.b)) (h3 : p ≠ none → c ≠ S)
    (k : Frm σ σ' (fun j => j = S ∨ own f j)) {f' : Fr} (hb : f'.b = f.b) (hS : St σ' S [.int .i64 (room : Int), .int .i64 ((total (fs ++ [f']) : Nat) : Int), .slice p (fs ++ [f]).length cap]) (hf : FrOK σ' f')
    (ho : ∀ i, own f' i → own f i ∨ (σ.n ≤ i ∧ i < σ'.n)) (ht : total (fs ++ [f']) ≤ room) : FS σ' S c room (fs ++ [f']) := by
  have hSl := h.lt
  have hoF := h.out f (by simp)
  have hc : c < σ.n := by
    rcases h2 with ⟨_, _, e⟩ | ⟨off, s, rfl, h2⟩
    · simp at e
    · exact h2.lt
  have hp : p ≠ none := by
    rcases h2 with ⟨_, _, e⟩ | ⟨off, s, rfl, h2⟩
    · simp at e
    · simp
  have hsep := List.pairwise_append.1 h.sep
  refine ⟨h.rm, ht, ⟨p, cap, by simpa using hS, ?_, h3⟩, fun g hg => ?_, fun g hg i hi => ?_, ?_⟩
  · have := h2.frm k fun _ hT => by
      rcases hT with hT | hT
      · exact h3 hp hT
      · exact (hoF c hT).2.2 rfl
    simpa [hb] using this
  · rcases List.mem_append.1 hg with hg | hg
    · refine (h.ok g (by simp [hg])).frm k fun i hi hT => ?_
      rcases hT with hT | hT
      · exact (h.out g (by simp [hg]) i hi).2.1 hT
      · exact hsep.2.2 g hg f (by simp) i hi hT
    · simp at hg
      subst hg
      exact hf
  · have hk := k.n
    rcases List.mem_append.1 hg with hg | hg
    · have := h.out g (by simp [hg]) i hi
      exact ⟨by omega, this.2⟩
    · simp at hg
      subst hg
      rcases ho i hi with ho | ho
      · have := hoF i ho
        exact ⟨by omega, this.2⟩
      · omega
  · refine List.pairwise_append.2 ⟨hsep.1, by simp, fun g hg g' hg' i hi hi' => ?_⟩
    simp at hg'
    subst hg'
    rcases ho i hi' with ho | ho
    · exact hsep.2.2 g hg f (by simp) i hi ho
    · have := h.out g (by simp [hg]) i hi
      omega

section
variable {σ : AHeap} {S room : Nat} {Y : Nat → Prop} {vs : List Fv} {v : Fv}

theorem Stk.lt (h : Stk σ S room Y vs) : S < σ.n := by
  obtain ⟨_, c, frs, h1, _⟩ := h
  exact h1.lt

theorem Stk.fit (h : Stk σ S room Y vs) : tot vs ≤ room ∧ room ≤ 4096 ∧ 2 * vs.length ≤ tot vs := by
  obtain ⟨_, c, frs, h1, rfl, _⟩ := h
  rw [tot_vw, List.length_map]
  exact ⟨h1.fit, h1.rm, total_len frs⟩

theorem wp_newK (n : Nat) (hn : 16 ≤ n ∧ n ≤ 4096) (hY : ∀ i, Y i → i < σ.n) {Q : Value → AHeap → Prop} (hQ : ∀ σ', Frm σ σ' NoB → Stk σ' σ.n n Y [] → Q (.tuple #[PV σ.n, .int .i64 0]) σ') : WpF PROG ov0 8 [.int .i64 (n : Int)] σ Q := by
  refine wp_newS n hn fun σ' hF hS => hQ σ' hF ⟨fun i hi => Nat.lt_of_lt_of_le (hY i hi) hF.n, σ.n, [], hS, rfl, fun i hi => ?_⟩
  have := hY i hi
  exact ⟨by omega, by omega, fun f hf => by cases hf⟩

theorem wp_pushK (h : Stk σ S room Y vs) (back call : Int) (n : Nat) (hn : tot vs + 2 + n ≤ room) {Q : Value → AHeap → Prop}
    (hQ : ∀ σ', Frm σ σ' (fun j => ¬ Y j) → Stk σ' S room Y (vs ++ [⟨back, call, List.replicate n 1, []⟩]) → Q (.int .i64 0) σ') :
    WpF PROG ov0 9 [PV S, .int .i64 back, .int .i64 call, .int .i64 (n : Int)] σ Q := by
  obtain ⟨h0, c, frs, h1, rfl, h3⟩ := h
  rw [tot_vw] at hn
  refine wp_push h1 back call n hn fun σ' c' f' hF hc' e1 e2 e3 e4 hof hFS => hQ σ' (hF.mono fun j _ hj hy => ?_) ⟨fun i hi => Nat.lt_of_lt_of_le (h0 i hi) hF.n, c', frs ++ [f'], hFS, ?_, fun i hi => ⟨(h3 i hi).1, ?_, fun g hg ho => ?_⟩⟩
  · have := h3 j hy
    rcases hj with hj | hj
    · exact this.1 hj
    · exact this.2.1 hj
  · rw [List.map_append, List.map_cons, List.map_nil]
    unfold vw
    rw [e1, e2, e3, e4]
  · have := h0 i hi
    rcases hc' with rfl | hc'
    · exact (h3 i hi).2.1
    · omega
  · rcases List.mem_append.1 hg with hg | hg
    · exact (h3 i hi).2.2 g hg ho
    · simp at hg
      subst hg
      have := hof i ho
      have := h0 i hi
      omega

theorem ev_push_neg (S : Nat) (back call n : Int) (hn : n < 0) : EvF PROG ov0 9 [PV S, .int .i64 back, .int .i64 call, .int .i64 n] σ (.int .i64 1) σ := by
  refine EvF.of (T9_eq _ _ _ _) rfl ?_
  rw [T9, wp_join, wp_bif, if_pos (by simp; exact hn), wp_ret]
  simp only [T9k2, sw_same, asCons_cons, asInt_int, asNil_nil]
  rw [wp_ret]
  exact ⟨rfl, rfl⟩

theorem ev_push_full (h : Stk σ S room Y vs) (back call : Int) (n : Nat) (hn : ¬ tot vs + 2 + n ≤ room) : EvF PROG ov0 9 [PV S, .int .i64 back, .int .i64 call, .int .i64 (n : Int)] σ (.int .i64 9) σ := by
  have hf := h.fit
  obtain ⟨h0, c, frs, h1, rfl, h3⟩ := h
  obtain ⟨p, cap, h4, h5, h6⟩ := h1.blk
  rw [tot_vw] at hn hf
  have e1 : wi64 (wi64 ((room : Int) - ((total frs : Nat) : Int)) - 2) = (room : Int) - ((total frs : Nat) : Int) - 2 := by
    rw [wi64_in (n := (room : Int) - ((total frs : Nat) : Int)) (by omega), wi64_in (by omega)]
  refine EvF.of (T9_eq _ _ _ _) rfl ?_
  rw [T9, wp_join, wp_bif, if_neg (by simp)]
  simp only [asSome_some]
  rw [wp_ldF h4 rfl, asInt_int, wp_ldF h4 rfl, asInt_int, e1, wp_bif, if_pos (by simp; omega), wp_ret]
  simp only [T9k2, sw_same, asCons_cons, asInt_int, asNil_nil]
  rw [wp_ret]
  exact ⟨rfl, rfl⟩

theorem Stk.nil (h : Stk σ S room Y []) : ∃ c, FS σ S c room [] := by
  obtain ⟨_, c, frs, h1, h2, _⟩ := h
  simp at h2
  subst h2
  exact ⟨c, h1⟩

theorem ev_depthK (h : Stk σ S room Y vs) : EvF PROG ov0 15 [PV S] σ (.int .i64 ((vs.length : Nat) : Int)) σ := by
  obtain ⟨_, c, frs, h1, rfl, _⟩ := h
  rw [List.length_map]
  exact ev_depth h1
end
end Go.Pg
