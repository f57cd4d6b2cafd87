/- Layer 12: what roots reach is there behind a collection, just as it hung together; nothing else is: the law's tree returns true. -/
import Derived.Test.YtndkndlfhmkkkaaLive2
import Derived.Test.YtndkndlfhmkkkaaHAwake
import Derived.Test.YtndkndlfhmkkkaaHeap16
namespace Go.Pg
open Go.Proofs

theorem setM_VH' {W : List Int} {H : List Bool} (h : VH W H) (p i w : Int) (hw : 0 ≤ w ∧ w < 18446744073709551616) : VH (setM W H p i w).2 H ∧ (setM W H p i w).2.length = W.length := by
  unfold setM
  by_cases hp : plB H p = true
  · rw [if_pos hp]
    by_cases hi : 0 ≤ i ∧ i < splitN (W.getD (atI p).toNat 0) ∧ mayB H w = true
    · rw [if_pos hi]
      obtain ⟨i1, i2, i3⟩ := hi
      exact ⟨h.set p hp i.toNat (by omega) w i3 hw, by simp⟩
    · rw [if_neg hi]
      exact ⟨h, rfl⟩
  · rw [if_neg hp]
    exact ⟨h, rfl⟩
theorem rootsM_lenL (W : List Int) (H : List Bool) (s : CS) (rs : List Int) : (rootsM W H s rs).2.length = rs.length := by
  unfold rootsM
  have g : ∀ (rs : List Int) (a : CS × List Int), (rs.foldl (fun a r => ((moveM W H a.1 r).1, a.2 ++ [(moveM W H a.1 r).2])) a).2.length = a.2.length + rs.length := by
    intro rs
    induction rs with
    | nil => intro a; rfl
    | cons r rs ih =>
      intro a
      rw [List.foldl_cons, ih]
      simp
      omega
  have := g rs (s, [])
  simpa using this

theorem live_at {W : List Int} {H : List Bool} {i : Nat} {s : CS} (hM : CMap W H i s) (hi : s.w.length ≤ i) (hq : s.w.length ≤ 2147483647) (a : Int) (hp : plB H a = true) (hl : ∃ p, look s.m (atI a) = some p) :
    ∃ k q : Nat, atI a = (k : Int) ∧ imW H s.m a = ptrW q ∧ atI (ptrW q) = (q : Int) ∧ plB s.h (ptrW q) = true ∧ a = 2 * (k : Int) ∧ s.w.getD q 0 = W.getD k 0 ∧ (k : Int) ∈ s.m.map (·.1) ∧ ∀ c, c < szN W k → Im H s.m (W.getD (k + 1 + c) 0) (s.w.getD (q + 1 + c) 0) := by
  obtain ⟨p, hl⟩ := hl
  have hm := look_mem hl
  obtain ⟨k, q, e1, e2, e3, e4, e5, e6, e7⟩ := hM.ent _ _ hm
  have eq : ptrW q = 2 * (q : Int) := by unfold ptrW; omega
  have hB : atB (ptrW q) = true := by rw [eq]; unfold atB; simp; omega
  refine ⟨k, q, e1, ?_, ?_, plB_ptr _ _ (by omega) e5, ?_, e6, ?_, fun c hc => ?_⟩
  · unfold imW
    rw [if_pos hp, hl, e2]
    rfl
  · unfold atI
    rw [if_pos hB, eq]
    omega
  · unfold plB at hp
    simp only [Bool.and_eq_true] at hp
    have h1 := hp.1
    unfold atI at e1
    rw [if_pos h1] at e1
    unfold atB at h1
    simp only [decide_eq_true_eq] at h1
    omega
  · rw [← e1]
    exact List.mem_map.2 ⟨_, hm, rfl⟩
  · have := (e7 c hc).2
    rw [if_pos (by omega)] at this
    exact this

/-- Two rows that grow side by side. -/
def AB2 (σ : AHeap) (N0 : Nat) (E : Nat → Prop) (pa : Option Addr) (ca : Nat) (A : List Int) (pb : Option Addr) (cb : Nat) (B : List Int) : Prop :=
  ∃ ba bb, SlV σ ba pa ca (ints .u64 A) ∧ SlV σ bb pb cb (ints .u64 B) ∧ (pa ≠ none → N0 ≤ ba ∧ ¬ E ba) ∧ (pb ≠ none → N0 ≤ bb ∧ ¬ E bb) ∧ (pa ≠ none → pb ≠ none → ba ≠ bb)

section
variable {σ σ' : AHeap} {N0 : Nat} {E : Nat → Prop} {pa pb : Option Addr} {ca cb : Nat} {A B : List Int}
theorem SlV.ltP {b c : Nat} {p : Option Addr} {xs : List Value} (h : SlV σ b p c xs) (hp : p ≠ none) : b < σ.n := by
  cases p with
  | none => exact absurd rfl hp
  | some a => exact h.lt
theorem AB2.swap (h : AB2 σ N0 E pa ca A pb cb B) : AB2 σ N0 E pb cb B pa ca A := by
  obtain ⟨ba, bb, h1, h2, h3, h4, h5⟩ := h
  exact ⟨bb, ba, h2, h1, h4, h3, fun a b e => h5 b a e.symm⟩
theorem AB2.frm {T : Nat → Prop} (h : AB2 σ N0 E pa ca A pb cb B) (k : Frm σ σ' T) (hT : ∀ i, i < σ.n → T i → i < N0 ∨ E i) : AB2 σ' N0 E pa ca A pb cb B := by
  obtain ⟨ba, bb, h1, h2, h3, h4, h5⟩ := h
  refine ⟨ba, bb, h1.frm k fun hp ht => ?_, h2.frm k fun hp ht => ?_, h3, h4, h5⟩
  · rcases hT ba (h1.ltP hp) ht with h | h
    · have := (h3 hp).1; omega
    · exact (h3 hp).2 h
  · rcases hT bb (h2.ltP hp) ht with h | h
    · have := (h4 hp).1; omega
    · exact (h4 hp).2 h
theorem AB2.rdA (h : AB2 σ N0 E pa ca A pb cb B) : RdI σ .u64 pa A := by
  obtain ⟨ba, bb, h1, h2, h3, h4, h5⟩ := h
  exact h1.rdB.rd
theorem AB2.weak {E' : Nat → Prop} (h : AB2 σ N0 E pa ca A pb cb B) (hE : ∀ i, E' i → E i) : AB2 σ N0 E' pa ca A pb cb B := by
  obtain ⟨ba, bb, h1, h2, h3, h4, h5⟩ := h
  exact ⟨ba, bb, h1, h2, fun hp => ⟨(h3 hp).1, fun he => (h3 hp).2 (hE _ he)⟩, fun hp => ⟨(h4 hp).1, fun he => (h4 hp).2 (hE _ he)⟩, h5⟩
theorem AB2.grow (h : AB2 σ N0 E pa ca A pb cb B) (k : Frm σ σ' NoB) : AB2 σ' N0 (fun i => E i ∨ (σ.n ≤ i ∧ i < σ'.n)) pa ca A pb cb B := by
  have h' := h
  obtain ⟨ba, bb, h1, h2, h3, h4, h5⟩ := h
  refine ⟨ba, bb, h1.frm k fun _ h => h, h2.frm k fun _ h => h, fun hp => ⟨(h3 hp).1, fun he => ?_⟩, fun hp => ⟨(h4 hp).1, fun he => ?_⟩, h5⟩
  · rcases he with he | he
    · exact (h3 hp).2 he
    · have := h1.ltP hp; omega
  · rcases he with he | he
    · exact (h4 hp).2 he
    · have := h2.ltP hp; omega
theorem AB2.wpR {x : Int} {r cr : Nat} {pr : Option Addr} {g : Option Addr → Nat → Nat → Pg} {Q : Post} (h : AB2 σ N0 E pa ca A pb cb B) (hr : SlV σ r pr cr [.int .u64 x]) (hN : N0 ≤ σ.n) (hE : ∀ i, E i → i < σ.n) (hl : A.length ≤ 1000000) {n : Nat} (hn : n = A.length)
    (K : ∀ σ' pa' ca', Frm σ σ' (fun j => ∃ ba, pa ≠ none ∧ SlV σ ba pa ca (ints .u64 A) ∧ N0 ≤ ba ∧ ¬ E ba ∧ j = ba) → AB2 σ' N0 E pa' ca' (A ++ [x]) pb cb B → Wp PROG ov0 (g pa' (n + 1) ca') σ' Q) :
    Wp PROG ov0 (.act (apS 1 8 pa n ca pr 1 cr) fun w => asSlice w g) σ Q := by
  subst hn
  obtain ⟨ba, bb, h1, h2, h3, h4, h5⟩ := h
  refine wp_appR h1 (by simp) hr rfl (by omega) (by omega) fun σ1 b1 p1 c1 hF1 hb1 hR1 => ?_
  have hne : p1 ≠ none := by
    rintro rfl
    rcases hR1 with ⟨_, _, e⟩ | ⟨_, _, e, _⟩
    · simp at e
    · cases e
  have e : ints .u64 A ++ [.int .u64 x] = ints .u64 (A ++ [x]) := by simp [ints]
  rw [e] at hR1
  refine K σ1 p1 c1 (hF1.mono fun j _ h => ⟨ba, h.1, h1, (h3 h.1).1, (h3 h.1).2, h.2⟩) ⟨b1, bb, hR1, h2.frm hF1 fun hp h => h5 h.1 hp h.2.symm, fun _ => ?_, h4, fun _ hp => ?_⟩
  · rcases hb1.resolve_left hne with ⟨hp, rfl⟩ | hb1
    · exact h3 hp
    · exact ⟨by omega, fun he => by have := hE _ he; omega⟩
  · rcases hb1.resolve_left hne with ⟨hp', rfl⟩ | hb1
    · exact h5 hp' hp
    · have := h2.ltP hp
      omega
theorem AB2.wp1 {x : Int} {g : Option Addr → Nat → Nat → Pg} {Q : Post} (h : AB2 σ N0 E pa ca A pb cb B) (hN : N0 ≤ σ.n) (hE : ∀ i, E i → i < σ.n) (hl : A.length ≤ 1000000) {n : Nat} (hn : n = A.length)
    (K : ∀ σ' pa' ca', Frm σ σ' (fun j => N0 ≤ j ∧ ¬ E j) → AB2 σ' N0 E pa' ca' (A ++ [x]) pb cb B → Wp PROG ov0 (g pa' (n + 1) ca') σ' Q) :
    Wp PROG ov0 (.act (bdSl 1 1 [.int .u64 x]) fun v => asSlice v fun p' n' c' => .act (apS 1 8 pa n ca p' n' c') fun w => asSlice w g) σ Q := by
  rw [wp_act, bdSl_eq]
  simp only [asSlice_slice]
  have hF1 := Frm.new σ [.int .u64 x] 1 NoB
  have hR1 := Row.new σ 1 [.int .u64 x] 1 (by decide) rfl (by intro y hy; simp at hy; subst hy; rfl)
  have hn1 : (σ.newBlk [.int .u64 x] 1).n = σ.n + 1 := rfl
  generalize σ.newBlk [.int .u64 x] 1 = σ1 at hF1 hR1 hn1
  refine (h.frm hF1 fun i _ h => h.elim).wpR (.inr ⟨0, 1, rfl, hR1⟩) (by omega) (fun i hi => by have := hE i hi; omega) hl hn fun σ2 pa2 ca2 hF2 h2 => ?_
  exact K σ2 pa2 ca2 (hF1.trans hF2 (fun _ _ h => h.elim) fun j _ h => by
    obtain ⟨ba, _, _, h1, h2, rfl⟩ := h
    exact ⟨h1, h2⟩) h2
end

/-- Both heaps stand, whatever goes on in blocks that came behind. -/
structure LiveS (σ : AHeap) (N0 S Z : Nat) (W : List Int) (H : List Bool) (w : List Int) (h : List Bool) : Prop where
  p : HP σ S (fun i => N0 ≤ i ∧ i < σ.n) 2000 (0 + 1) w h
  q : HP σ Z (fun i => N0 ≤ i ∧ i < σ.n) 2000 0 W H
  n : N0 ≤ σ.n
theorem LiveS.step {σ σ' : AHeap} {N0 S Z : Nat} {W : List Int} {H : List Bool} {w : List Int} {h : List Bool} {T : Nat → Prop} (l : LiveS σ N0 S Z W H w h) (k : Frm σ σ' T) (hT : ∀ i, i < σ.n → T i → N0 ≤ i) : LiveS σ' N0 S Z W H w h := by
  have hn := k.n
  have hn0 := l.n
  exact ⟨l.p.step k (fun i hi h => ⟨hT i hi h, hi⟩) fun i hi => ⟨hi.2, by omega⟩, l.q.step k (fun i hi h => ⟨hT i hi h, hi⟩) fun i hi => ⟨hi.2, by omega⟩, by omega⟩

section
variable {σ : AHeap} {N0 S Z mb : Nat} {W w : List Int} {H h : List Bool} {m : List (Int × Int)} {rs : List Int} {ts us : List (Int × List Int)}

/-- What stands while the walk goes on. -/
structure Walk (σ : AHeap) (N0 S Z mb : Nat) (W : List Int) (H : List Bool) (w : List Int) (h : List Bool) (m : List (Int × Int)) (A : List Int) (K : List Int) (pa : Option Addr) (ca : Nat) (pb : Option Addr) (cb : Nat) : Prop where
  l : LiveS σ N0 S Z W H w h
  r : AB2 σ N0 (· = mb) pa ca A pb cb (A.map (imW H m))
  m : MapAt σ mb (seenE m K)

/-- The words of a thing are put behind the others. -/
theorem wp_words (hW : W = wOf ts) (hH : H = hOf ts) (ht : ThOK ts) (hw' : w = wOf us) (hh' : h = hOf us) (hu : ThOK us) (hl1 : W.length ≤ 2000) (hl2 : w.length ≤ 2000)
    {A K : List Int} {pa pb : Option Addr} {ca cb j k q : Nat} (hWk : Walk σ N0 S Z mb W H w h m A K pa ca pb cb) (hj : j < A.length) (hA : A.length ≤ 3000) (ha : 0 ≤ A[j]) (hp : plB H A[j] = true) (hk : atI A[j] = (k : Int)) (hq : imW H m A[j] = ptrW q) (hqi : atI (ptrW q) = (q : Int)) (hqp : plB h (ptrW q) = true) (hqw : w.getD q 0 = W.getD k 0) (hqc : ∀ c, c < szN W k → Im H m (W.getD (k + 1 + c) 0) (w.getD (q + 1 + c) 0))
    {X : List Int} (hX : X.length = szN W k) (hXe : ∀ c (hc : c < X.length), X[c] = W.getD (k + 1 + c) 0) (n : Int) {b : Bool} {Q : Post}
    (hQ : ∀ σ' pa' ca' pb' cb', σ'.old = σ.old → (Fresh σ → Fresh σ') → Walk σ' N0 S Z mb W H w h m (A ++ X) K pa' ca' pb' cb' → Wp PROG ov0 (T7k4 n (szN W k : Int) b (.exit 6) [.int .i64 (szN W k : Int), .slice pb' (A.length + X.length) cb', .slice pa' (A.length + X.length) ca']) σ' Q) :
    Wp PROG ov0 (.loop [.int .i64 0, .slice pb A.length cb, .slice pa A.length ca] (T7b2 (szN W k : Int) (j : Int) (some (PA Z)) (some (PA S))) (T7k4 n (szN W k : Int) b)) σ Q := by
  refine Wp.count (szN W k) (fun c st σ' => ∃ pa' ca' pb' cb', st = [.int .i64 ((c : Nat) : Int), .slice pb' (A.length + c) cb', .slice pa' (A.length + c) ca'] ∧ σ'.old = σ.old ∧ (Fresh σ → Fresh σ') ∧ Walk σ' N0 S Z mb W H w h m (A ++ X.take c) K pa' ca' pb' cb') ⟨pa, ca, pb, cb, rfl, rfl, fun f => f, by simpa using hWk⟩ ?_ ?_
  · rintro c st σ1 hc ⟨pa1, ca1, pb1, cb1, rfl, ho1, hf1, h1⟩
    have hhk := plB_head hp
    rw [hk, Int.toNat_natCast, hH] at hhk
    obtain ⟨_, t2⟩ := thing_at ts k ht hhk
    rw [← hW] at t2
    have hsz : (splitN (W.getD k 0)).toNat = szN W k := rfl
    rw [hsz] at t2
    have hnn := splitN_nn (W.getD k 0)
    have ec : wi64 ((c : Int) + 1) = ((c + 1 : Nat) : Int) := by rw [wi64_in (by omega)]; omega
    have g1 : getM W H A[j] (c : Int) = (W.getD (k + 1 + c) 0, 0) := by
      unfold getM
      rw [if_pos hp, hk, Int.toNat_natCast, Int.toNat_natCast, if_pos ⟨by omega, by omega⟩]
    have g2 : getM w h (ptrW q) (c : Int) = (w.getD (q + 1 + c) 0, 0) := by
      unfold getM
      rw [if_pos hqp, hqi, Int.toNat_natCast, Int.toNat_natCast, hqw, if_pos ⟨by omega, by omega⟩]
    have hla : (A ++ X.take c).length = A.length + c := by simp; omega
    have hlb : ((A ++ X.take c).map (imW H m)).length = A.length + c := by rw [List.length_map, hla]
    have gA : (A ++ X.take c).getD j 0 = A[j] := by
      rw [getD_app hj]
      simp [List.getD, hj]
    have gB : ((A ++ X.take c).map (imW H m)).getD j 0 = ptrW q := by
      rw [List.map_append, getD_app (by rw [List.length_map]; exact hj), ← hq]
      simp [List.getD, hj]
    simp only [T7b2, asCons_cons, asInt_int, asSlice_slice, asNil_nil]
    rw [wp_bif, if_pos (by simp; omega), wp_join, wp_rdN h1.r.rdA hla.symm (by omega), gA, wp_call, WpF.eq (ev_get22 h1.l.q hW hH ht (by omega) _ _ ha), g1]
    simp only [asTuple_tuple, asCons_cons, asInt_int, asNil_nil]
    rw [wp_rdN h1.r.swap.rdA hlb.symm (by omega), gB, wp_call, WpF.eq (ev_get22 h1.l.p hw' hh' hu (by omega) _ _ (ptrW_bnd q).1), g2]
    simp only [asTuple_tuple, asCons_cons, asInt_int, asNil_nil]
    have hmlt := h1.m.1
    refine h1.r.wp1 h1.l.n (fun i hi => by rw [hi]; exact hmlt) (by omega) hla.symm fun σ2 pa2 ca2 hF2 h2 => ?_
    have l2 := h1.l.step hF2 fun i _ h => h.1
    have m2 := h1.m.frm hF2 fun h => h.2 rfl
    refine h2.swap.wp1 l2.n (fun i hi => by rw [hi]; exact m2.1) (by omega) hlb.symm fun σ3 pb3 cb3 hF3 h3 => ?_
    have l3 := l2.step hF3 fun i _ h => h.1
    have m3 := m2.frm hF3 fun h => h.2 rfl
    rw [wp_ret]
    simp only [T7k3, sw_same, asCons_cons, asSlice_slice, asNil_nil]
    rw [wp_ret, ec]
    have ex : X.take (c + 1) = X.take c ++ [W.getD (k + 1 + c) 0] := by
      rw [take_succ' X c (by omega), hXe c (by omega)]
    have ey : w.getD (q + 1 + c) 0 = imW H m (W.getD (k + 1 + c) 0) := (hqc c hc).eq
    refine ⟨pa2, ca2, pb3, cb3, rfl, (hF3.old.trans hF2.old).trans ho1, fun f => hF3.fr (hF2.fr (hf1 f)), l3, ?_, m3⟩
    have h3' := h3.swap
    rw [ex, ← List.append_assoc, List.map_append, List.map_cons, List.map_nil, ← ey]
    exact h3'
  · rintro st σ1 ⟨pa1, ca1, pb1, cb1, rfl, ho1, hf1, h1⟩
    simp only [T7b2, asCons_cons, asInt_int, asSlice_slice, asNil_nil]
    rw [wp_bif, if_neg (by simp), wp_ret]
    have et : X.take (szN W k) = X := List.take_of_length_le (by omega)
    rw [et] at h1
    have := hQ σ1 pa1 ca1 pb1 cb1 ho1 hf1 h1
    rw [hX] at this
    exact this

theorem wp_walk {i : Nat} {s : CS} (hw : w = s.w) (hh : h = s.h) (hsm : m = s.m) (hM : CMap W H i s) (hi : s.w.length ≤ i) (hW : W = wOf ts) (hH : H = hOf ts) (ht : ThOK ts) (hb : ∀ x ∈ W, 0 ≤ x ∧ x < 18446744073709551616) (hw' : w = wOf us) (hh' : h = hOf us) (hu : ThOK us) (hl1 : W.length ≤ 2000) (hl2 : w.length ≤ 2000)
    (hr1 : rs.length ≤ 10) (hr2 : ∀ a ∈ rs, 0 ≤ a ∧ a < 18446744073709551616) (hr3 : ∀ a ∈ rs, plB H a = true → ∃ p, look m (atI a) = some p)
    (hC : ∀ C : Int → Prop, (∀ k : Nat, C k → H.getD k false = true → ∀ c, c < szN W k → plB H (W.getD (k + 1 + c) 0) = true → C (atI (W.getD (k + 1 + c) 0))) → (∀ r ∈ rs, plB H r = true → C (atI r)) → ∀ e ∈ m, C e.1)
    {pa pb : Option Addr} {ca cb : Nat} (hWk : Walk σ N0 S Z mb W H w h m rs [] pa ca pb cb) (hmb : N0 ≤ mb) (b : Bool) :
    Wp PROG ov0 (.loop [.int .i64 0, .slice pb rs.length cb, .slice pa rs.length ca, .int .i64 0, .bool b] (T7b3 (some (PA Z)) (some mb) (some (PA S))) (T7k6 (some (PA S)))) σ fun _ vs _ => ∃ v, vs = [v] ∧ v = .bool true := by
  have hnd : (m.map (·.1)).Nodup := by rw [hsm]; exact hM.nd
  have hsum : w.length = ((m.map (·.1)).map fun k => 1 + szN W k.toNat).sum := by
    rw [hw, hM.sum, hsm, List.map_map]
    rfl
  have hsz := sum_sz (W := W) (m.map (·.1))
  refine Wp.count (rs.length + ((m.map (·.1)).map fun k => szN W k.toNat).sum) (fun j st σ' => ∃ A K pa ca pb cb, st = [.int .i64 ((j : Nat) : Int), .slice pb A.length cb, .slice pa A.length ca, .int .i64 (((K.map fun k => 1 + szN W k.toNat).sum : Nat) : Int), .bool b] ∧ Walk σ' N0 S Z mb W H w h m A K pa ca pb cb ∧ WInv W H m rs j A K)
    ⟨rs, [], pa, ca, pb, cb, rfl, hWk, WInv.start hr2 hr3⟩ ?_ ?_
  · rintro j st σ1 hjT ⟨A, K, pa1, ca1, pb1, cb1, rfl, h1, hI⟩
    have hj := hI.more hnd hC hjT
    have hAl := hI.le
    have ej : wi64 ((j : Int) + 1) = ((j + 1 : Nat) : Int) := by rw [wi64_in (by omega)]; omega
    have hab := hI.bnd _ (List.getElem_mem hj)
    have gA : A.getD j 0 = A[j] := by simp [List.getD, hj]
    have gB : (A.map (imW H m)).getD j 0 = imW H m A[j] := by simp [List.getD, hj]
    have hlb : A.length = (A.map (imW H m)).length := by simp
    have hjb : j < (A.map (imW H m)).length := by omega
    have rdA := h1.r.rdA
    have rdB := h1.r.swap.rdA
    simp only [T7b3, asCons_cons, asInt_int, asSlice_slice, asBool_bool, asNil_nil]
    rw [wp_bif, if_pos (by simp; omega), wp_join, wp_rdN rdA rfl hj, gA, wp_call, WpF.eq (ev_head24 h1.l.q hW hH ht _ hab.1)]
    by_cases hp : plB H A[j] = true
    · have hd : headM W H A[j] = (splitK (W.getD (atI A[j]).toNat 0), splitT (W.getD (atI A[j]).toNat 0), splitN (W.getD (atI A[j]).toNat 0), 0) := by
        unfold headM
        rw [if_pos hp]
      obtain ⟨k, q, f1, f2, f3, f4, f5, f6, f7, f8⟩ := live_at hM hi (by rw [← hw]; omega) A[j] hp (by rw [← hsm]; exact hI.im _ (List.getElem_mem hj) hp)
      rw [← hsm] at f2 f7 f8
      rw [← hh] at f4
      rw [← hw] at f6 f8
      have hhk := plB_head hp
      rw [f1, Int.toNat_natCast, hH] at hhk
      obtain ⟨_, t2⟩ := thing_at ts k ht hhk
      rw [← hW] at t2
      have hszk : (splitN (W.getD k 0)).toNat = szN W k := rfl
      rw [hszk] at t2
      have hnn := splitN_nn (W.getD k 0)
      have hsN : splitN (W.getD k 0) = ((szN W k : Nat) : Int) := by omega
      rw [f1, Int.toNat_natCast, hsN] at hd
      rw [hd]
      simp only [asTuple_tuple, asCons_cons, asInt_int, asNil_nil]
      rw [wp_bif, if_neg (by simp), wp_rdN rdA rfl hj, gA]
      have hlk : (look m (k : Int)).getD 0 = ptrW q := by
        unfold imW at f2
        rw [if_pos hp, f1] at f2
        exact f2
      by_cases hK : (k : Int) ∈ K
      · have e : lkp (.int .u64) (.int .u64 0) (some mb) (.int .u64 A[j]) true σ1 = some (.tuple #[.int .u64 (ptrW q), .bool true], σ1) := by
          have := h1.m.find (.int .u64 (2 * (k : Int))) _ (seen_find m k K hK) (.int .u64 0)
          rw [f5, this, hlk]
        rw [wp_act, e]
        simp only [asTuple_tuple, asCons_cons, asInt_int, asBool_bool, asNil_nil]
        rw [wp_bif, if_pos rfl, wp_rdN rdB hlb hjb, gB, f2, wp_bif, if_neg (by simp), wp_ret]
        simp only [T7k5, sw_nr, sw_same, asCons_cons, asInt_int, asSlice_slice, asBool_bool, asNil_nil]
        rw [wp_ret, ej]
        exact ⟨A, K, pa1, ca1, pb1, cb1, rfl, h1, hI.skip hj fun _ => by rw [f1]; exact hK⟩
      · have e : lkp (.int .u64) (.int .u64 0) (some mb) (.int .u64 A[j]) true σ1 = some (.tuple #[.int .u64 0, .bool false], σ1) := by
          have := h1.m.find (.int .u64 (2 * (k : Int))) _ (seen_no m k K hK) (.int .u64 0)
          rw [f5, this]
        rw [wp_act, e]
        simp only [asTuple_tuple, asCons_cons, asInt_int, asBool_bool, asNil_nil]
        rw [wp_bif, if_neg (by simp), wp_rdN rdA rfl hj, gA, wp_rdN rdB hlb hjb, gB, f2]
        have hset := seen_set m k K hK
        rw [hlk, ← f5] at hset
        refine wp_mup h1.m hset fun σ2 hF2 hn2 m2 => ?_
        have hmN : ∀ i, i < σ1.n → i = mb → i < N0 ∨ i = mb := fun i _ e => .inr e
        have r2 := h1.r.frm hF2 hmN
        have rdB2 := r2.swap.rdA
        rw [wp_rdN rdB2 hlb hjb, gB, f2, wp_call]
        have l2 := h1.l.step hF2 fun i _ e => by rw [e]; exact hmb
        have hd2 : headM w h (ptrW q) = (splitK (W.getD k 0), splitT (W.getD k 0), ((szN W k : Nat) : Int), 0) := by
          unfold headM
          rw [if_pos f4, f3, Int.toNat_natCast, f6, hsN]
        rw [WpF.eq (ev_head24 l2.p hw' hh' hu _ (ptrW_bnd q).1), hd2]
        simp only [asTuple_tuple, asCons_cons, asInt_int, asNil_nil]
        rw [wp_bif, if_neg (by simp)]
        obtain ⟨X, hXd⟩ : ∃ X, X = (W.drop (k + 1)).take (szN W k) := ⟨_, rfl⟩
        have hX : X.length = szN W k := by
          rw [hXd, List.length_take, List.length_drop]
          omega
        have hXe : ∀ c (hc : c < X.length), X[c] = W.getD (k + 1 + c) 0 := by
          intro c hc
          subst hXd
          have hcl : k + 1 + c < W.length := by omega
          simp [List.getD, hcl]
        have hXb : ∀ a ∈ X, 0 ≤ a ∧ a < 18446744073709551616 := fun a ha => hb a (by rw [hXd] at ha; exact List.mem_of_mem_drop (List.mem_of_mem_take ha))
        have hXi : ∀ a ∈ X, plB H a = true → ∃ p, look m (atI a) = some p := by
          intro a ha hpa
          obtain ⟨c, hc, rfl⟩ := List.mem_iff_getElem.1 ha
          rw [hXe c hc] at hpa ⊢
          exact ⟨_, (f8 c (by omega)).some hpa⟩
        have see := hI.see hj k f1 hK f7 hX hXe hXb hXi
        have hle := sum_sub (fun k => 1 + szN W k.toNat) (K ++ [(k : Int)]) (m.map (·.1)) see.nd see.key
        have hsK : ((K ++ [(k : Int)]).map fun k => 1 + szN W k.toNat).sum = (K.map fun k => 1 + szN W k.toNat).sum + szN W k + 1 := by
          simp
          omega
        have hXl := see.le
        rw [List.length_append] at hXl
        refine wp_words hW hH ht hw' hh' hu hl1 hl2 ⟨l2, r2, m2⟩ hj (by omega) hab.1 hp f1 f2 f3 f4 f6 f8 hX hXe _ fun σ3 pa3 ca3 pb3 cb3 _ _ h3 => ?_
        simp only [T7k4, sw_same, asCons_cons, asInt_int, asSlice_slice, asNil_nil]
        rw [wp_ret]
        simp only [T7k5, sw_nr, sw_same, asCons_cons, asInt_int, asSlice_slice, asBool_bool, asNil_nil]
        rw [wp_ret, ej, wi64_in (n := (((K.map fun k => 1 + szN W k.toNat).sum : Nat) : Int) + ((szN W k : Nat) : Int)) (by omega), wi64_in (by omega)]
        refine ⟨A ++ X, K ++ [(k : Int)], pa3, ca3, pb3, cb3, ?_, h3, see⟩
        rw [List.length_append, hsK]
        simp
    · have hd : headM W H A[j] = (0, 0, 0, 4) := by
        unfold headM
        rw [if_neg hp]
      have hi1 : imW H m A[j] = A[j] := by
        unfold imW
        rw [if_neg hp]
      rw [hd]
      simp only [asTuple_tuple, asCons_cons, asInt_int, asNil_nil]
      rw [wp_bif, if_pos (by rfl), wp_rdN rdA rfl hj, gA, wp_rdN rdB hlb hjb, gB, hi1, wp_bif, if_neg (by simp), wp_ret]
      simp only [T7k5, sw_nr, sw_same, asCons_cons, asInt_int, asSlice_slice, asBool_bool, asNil_nil]
      rw [wp_ret, ej]
      exact ⟨A, K, pa1, ca1, pb1, cb1, rfl, h1, hI.skip hj fun h => absurd h hp⟩
  · rintro st σ1 ⟨A, K, pa1, ca1, pb1, cb1, rfl, h1, hI⟩
    have hAl := hI.le
    have hjl := hI.jle
    have hjA : rs.length + ((m.map (·.1)).map fun k => szN W k.toNat).sum = A.length := by omega
    rw [hjA] at hI ⊢
    have hall := hI.done hnd hC fun k => 1 + szN W k.toNat
    simp only [T7b3, asCons_cons, asInt_int, asSlice_slice, asBool_bool, asNil_nil]
    rw [wp_bif, if_neg (by simp), wp_ret]
    simp only [T7k6, sw_same, asCons_cons, asInt_int, asSlice_slice, asBool_bool, asNil_nil]
    rw [wp_call, WpF.eq (ev_used h1.l.p), asInt_int, wp_ret]
    refine ⟨_, rfl, ?_⟩
    rw [hall, ← hsum]
    simp
end

theorem heapLive_law (p0 : Option Addr) (c0 : Nat) (l : List (Sh.D shAct)) (p3 : Option Addr) (c3 : Nat) (rs : List (Sh.D (Sh.int .u64))) (old : Addr → Option Value) (rd : RdR old 7 shAct p0 l) (ok : (Sh.row 7 shAct).ok l) (rd3 : RdR old 1 (Sh.int .u64) p3 rs) (ok3 : (Sh.row 1 (Sh.int .u64)).ok rs) :
    WpF PROG ov0 7 [.slice p0 l.length c0, .slice p3 rs.length c3] (startH old) fun v _ => v = .bool true := by
  have hrb : ∀ a ∈ rs, 0 ≤ a ∧ a < 18446744073709551616 := fun a ha => u64_bnd a (ok3.2 a ha)
  refine WpF.of (T7_eq _ _ _ _ _ _) rfl ?_
  rw [T7, wp_call]
  refine WpF.mono (awake12 old) ?_
  rintro v σ0 ⟨rfl, ho0, hf0⟩
  simp only [asBool_bool]
  rw [wp_bif, if_neg (by simp), wp_join, wp_bif]
  by_cases h30 : l.length > 30
  · rw [if_neg (by simp; omega), wp_ret]
    simp only [T7k9, sw_same, asCons_cons, asBool_bool, asNil_nil]
    rw [wp_bif, if_pos rfl, wp_ret]
    exact ⟨_, rfl, rfl⟩
  rw [if_pos (by simp; omega), wp_ret]
  by_cases h10 : rs.length > 10
  · rw [show decide (((rs.length : Nat) : Int) > 10) = true by simp; omega]
    simp only [T7k9, sw_same, asCons_cons, asBool_bool, asNil_nil]
    rw [wp_bif, if_pos rfl, wp_ret]
    exact ⟨_, rfl, rfl⟩
  rw [show decide (((rs.length : Nat) : Int) > 10) = false by simp; omega]
  simp only [T7k9, sw_same, asCons_cons, asBool_bool, asNil_nil]
  rw [wp_bif, if_neg (by simp), wp_call]
  refine wp_newH (Y := NoB) 2000 (by omega) (fun i hi => hi.elim) fun σ1 hF1 h1 => ?_
  have ho1 := hF1.old.trans ho0
  have hf1 := hF1.fr hf0
  generalize σ0.n = S at h1
  simp only [asTuple_tuple, asCons_cons, asPtr_ptr, asInt_int, asNil_nil]
  refine Wp.count l.length (fun j st σ' => st = [.int .i64 ((j : Nat) : Int), .bool false] ∧ σ'.old = old ∧ Fresh σ' ∧ MadeH σ' S NoB 2000) ⟨rfl, ho1, hf1, [], [], h1, VH.nil, by simp⟩ ?_ ?_
  · rintro j st σ2 hj ⟨rfl, ho2, hf2, h2⟩
    have ej : wi64 ((j : Int) + 1) = ((j + 1 : Nat) : Int) := by rw [wi64_in (by omega)]; omega
    have okj := ok.2 l[j] (List.getElem_mem hj)
    obtain ⟨x, rfl, r0, r1, r2, r3, r4, r5, r6, _⟩ := rd j hj
    obtain ⟨_, _, _, _, ok4, ok5, okW, _⟩ := okj
    generalize l[j] = d at r0 r1 r2 r3 r4 r5 r6 ok4 ok5 okW
    obtain ⟨op, kd, tg, ii, pp, xx, ws, _⟩ := d
    simp only at r0 r1 r2 r3 r4 r5 r6 ok4 ok5 okW
    obtain ⟨wp, wc, r6, rW⟩ := r6
    have hwW : ∀ w ∈ ws, 0 ≤ w ∧ w < 18446744073709551616 := fun w hw => u64_bnd w (okW.2 w hw)
    have hpp := u64_bnd pp ok4
    have hxx := u64_bnd xx ok5
    simp only [T7b0, asCons_cons, asInt_int, asBool_bool, asNil_nil, asSome_some]
    rw [wp_bif, if_pos (by simp; omega), wp_join, wp_grdJ hj, Int.toNat_natCast, wp_cl r6 ho2, asSlice_slice, wp_bif]
    by_cases h10 : ws.length > 10
    · rw [if_pos (by simp; omega), wp_ret]
      simp only [T7k1, sw_same, asCons_cons, asBool_bool, asNil_nil]
      rw [wp_ret]
      simp only [T7k8, sw_re, sw_same, asCons_cons, asInt_int, asBool_bool, asNil_nil]
      rw [wp_ret]
      exact ⟨_, rfl, rfl⟩
    rw [if_neg (by simp; omega), wp_grdJ hj, wp_cl r0 ho2, asInt_int, wp_join, wp_bif]
    obtain ⟨words, heads, hH, hV, hL⟩ := h2
    by_cases h1 : op = 1
    · rw [if_pos (by simp [h1]), wp_grdJ hj, wp_cl r4 ho2, asInt_int, wp_grdJ hj, wp_cl r3 ho2, asInt_int, wp_grdJ hj, wp_cl r5 ho2, asInt_int, wp_call]
      obtain ⟨ts, hW, hHd, hT, _, _⟩ := id hV
      refine wp_set17 hH hW hHd hT (by omega) pp ii xx hpp.1 hxx.1 fun σ3 hF3 h3 => ?_
      obtain ⟨mV, mL⟩ := setM_VH' hV pp ii xx hxx
      rw [asInt_int, wp_ret]
      simp only [T7k0, sw_same, asNil_nil]
      rw [wp_ret]
      simp only [T7k1, sw_nr, sw_same, asCons_cons, asBool_bool, asNil_nil]
      rw [wp_ret, ej]
      exact ⟨rfl, hF3.old.trans ho2, hF3.fr hf2, _, _, h3, mV, by omega⟩
    rw [if_neg (by simp [h1]), wp_grdJ hj, wp_cl r1 ho2, asInt_int, wp_grdJ hj, wp_cl r2 ho2, asInt_int, wp_grdJ hj, wp_cl r6 ho2, asSlice_slice, wp_call]
    have hrdW : ∀ σ', Frm σ2 σ' NoB → RdI σ' .u64 wp ws := fun σ' hF => RdR.ints (old := old) rW σ' (hF.old.trans ho2)
    refine wp_back15 hrdW (by omega) wc fun σ3 R p3 c3 hF3 hR3 hb3 => ?_
    have ho3 := hF3.old.trans ho2
    rw [asSlice_slice, wp_get, wp_grd]
    refine ⟨chks_cl2 r2 r1 ho3, ?_⟩
    rw [wp_call]
    have h3 : MadeH σ3 S (fun i => p3 ≠ none ∧ i = R) 2000 := ⟨words, heads, hH.step hF3 (fun i _ h => h.elim) fun i hi => by
      cases p3 with
      | none => exact absurd rfl hi.1
      | some a => rw [hi.2]; exact ⟨hR3.lt, .inr (hb3 (by simp))⟩, hV, hL⟩
    refine wp_makeV h3 hR3 (fun hp => ⟨hp, rfl⟩) hwW (by omega) (by omega) kd tg fun σ4 a e hF4 h4 => ?_
    simp only [asTuple_tuple, asCons_cons, asInt_int, asNil_nil]
    rw [wp_ret]
    simp only [T7k0, sw_same, asNil_nil]
    rw [wp_ret]
    simp only [T7k1, sw_nr, sw_same, asCons_cons, asBool_bool, asNil_nil]
    rw [wp_ret, ej]
    obtain ⟨words4, heads4, hH4, hV4, hL4⟩ := h4
    exact ⟨rfl, hF4.old.trans ho3, hF4.fr (hF3.fr hf2), words4, heads4, hH4.step (Frm.refl σ4 NoB) (fun i _ h => h.elim) (fun i hi => hi.elim), hV4, hL4⟩
  · rintro st σ2 ⟨rfl, ho2, hf2, W, H, h2, hV, hL⟩
    simp only [T7b0, asCons_cons, asInt_int, asBool_bool, asNil_nil]
    rw [wp_bif, if_neg (by simp), wp_ret]
    simp only [T7k8, sw_same, asCons_cons, asInt_int, asBool_bool, asNil_nil]
    rw [wp_call]
    refine wp_putB h2 (by omega) fun σ3 b p4 c4 hF3 hR3 hb3 => ?_
    have ho3 := hF3.old.trans ho2
    have hload := loadR_putB hV 2000 0 (by omega) (by omega) hL
    have hlen := putB_len 2000 0 W
    have hbyte := putB_byte 2000 0 W
    obtain ⟨xs, hxs⟩ : ∃ xs, xs = putB 2000 0 W := ⟨_, rfl⟩
    rw [← hxs] at hR3 hload hlen hbyte ⊢
    rw [asSlice_slice, wp_call]
    have h3 := h2.step (Y' := NoB) hF3 (fun i _ h => h.elim) fun i hi => hi.elim
    refine wp_loadB hR3.src hbyte (by omega) (fun hn => absurd ⟨_, _, _, _, hload⟩ hn) ?_
    intro room turns ws' heads' hL' σ4 Z hF4 hZ h4
    obtain ⟨e1, e2, e3, e4⟩ := hL'.uniq hload
    subst e1 e2 e3 e4
    simp only [asTuple_tuple, asCons_cons, asPtr_ptr, asInt_int, asNil_nil]
    rw [wp_bif, if_neg (by simp)]
    have hn4 := hF4.n
    have ho4 := hF4.old.trans ho3
    have hf4 := hF4.fr (hF3.fr hf2)
    have t4 : Two σ4 S Z (fun i => σ3.n ≤ i ∧ i < σ4.n) (fun i => i < σ3.n) 2000 0 0 ws' heads' ws' heads' := by
      refine ⟨h3.step hF4 (fun i _ h => h.elim) fun i hi => ⟨hi.2, .inr hi.1⟩, h4, fun i hi hn => ?_⟩
      by_cases hlt : i < σ3.n
      · exact hlt
      · exact absurd ⟨by omega, hi⟩ hn
    rw [wp_call]
    refine wp_back15 (fun σ' hF => RdR.ints (old := old) rd3 σ' (hF.old.trans ho4)) (by omega) c3 fun σ5 R p5 c5 hF5 hR5 hb5 => ?_
    have ho5 := hF5.old.trans ho4
    have hf5 := hF5.fr hf4
    have t5 := t4.neutral hF5
    obtain ⟨ts, hW, hH, hT, hMy, hBd⟩ := id hV
    rw [asSlice_slice, wp_call]
    refine wp_collectK (rs := rs) t5.p hf5 (by omega) (by omega) hW hH hT hBd hR5 hrb (by omega) fun σ6 q ob qc hF6 hR6 hob h6 => ?_
    have h6' := h6.step (Y' := fun i => (σ3.n ≤ i ∧ i < σ4.n) ∨ (σ4.n ≤ i ∧ i < σ5.n)) (Frm.refl σ6 NoB) (fun i _ h => h.elim) fun i hi => ⟨h6.1 i (.inl hi), .inl (.inl hi)⟩
    have t6 := t5.opP hF6 h6'
    have ho6 := hF6.old.trans ho5
    have hf6 := hF6.fr hf5
    rw [asSlice_slice, wp_bif, if_neg (by simp)]
    obtain ⟨cV, cL, _⟩ := collect_VH hW hH hT hMy hBd (by omega) rs hrb
    obtain ⟨i, hi, hM, hMl, hIm, hC⟩ := collect_live hW hH hT hBd rs hrb
    have hout := rootsM_lenL ws' heads' ⟨[], [], []⟩ rs
    obtain ⟨out, hod⟩ : ∃ out, out = (rootsM ws' heads' ⟨[], [], []⟩ rs).2 := ⟨_, rfl⟩
    rw [← hod] at hout hIm hR6
    have hoe : out = rs.map (imW heads' (scanM ws' heads' ws'.length 0 (rootsM ws' heads' ⟨[], [], []⟩ rs).1).m) := by
      apply List.ext_getElem
      · simp [hout]
      · intro j h1 h2
        have hj : j < rs.length := by simpa using h2
        have := (hIm j hj).eq
        rw [List.getElem_map, ← this]
        simp [List.getD, h1]
    have hr3 : ∀ a ∈ rs, plB heads' a = true → ∃ p, look (scanM ws' heads' ws'.length 0 (rootsM ws' heads' ⟨[], [], []⟩ rs).1).m (atI a) = some p := by
      intro a ha hp
      obtain ⟨j, hj, rfl⟩ := List.mem_iff_getElem.1 ha
      exact ⟨_, (hIm j hj).some hp⟩
    have hsl : (scanM ws' heads' ws'.length 0 (rootsM ws' heads' ⟨[], [], []⟩ rs).1).w.length ≤ 2000 := by omega
    clear h6 hIm
    generalize scanM ws' heads' ws'.length 0 (rootsM ws' heads' ⟨[], [], []⟩ rs).1 = sF at t6 h6' cV cL hi hM hMl hC hoe hr3 hsl
    obtain ⟨us, hU, hUh, hUt, _, _⟩ := cV
    have live6 : LiveS σ6 σ6.n S Z ws' heads' sF.w sF.h := ⟨t6.p.step (Frm.refl σ6 NoB) (fun i _ h => h.elim) fun i hi => by omega, t6.q.step (Frm.refl σ6 NoB) (fun i _ h => h.elim) fun i hi => by omega, Nat.le_refl _⟩
    have hobl : q ≠ none → ob < σ6.n := fun hq => hR6.ltP hq
    generalize hN0 : σ6.n = N0 at live6 hobl
    refine Wp.count rs.length (fun j st σ' => ∃ pa ca pb cb, st = [.int .i64 ((j : Nat) : Int), .slice pb j cb, .slice pa j ca] ∧ σ'.old = old ∧ Fresh σ' ∧ LiveS σ' N0 S Z ws' heads' sF.w sF.h ∧ SlV σ' ob q qc (ints .u64 out) ∧ AB2 σ' N0 NoB pa ca (rs.take j) pb cb (out.take j))
      ⟨none, 0, none, 0, rfl, ho6, hf6, live6, hR6, 0, 0, .inl ⟨rfl, rfl, by simp⟩, .inl ⟨rfl, rfl, by simp⟩, fun h => absurd rfl h, fun h => absurd rfl h, fun h => absurd rfl h⟩ ?_ ?_
    · rintro j st σ7 hj ⟨pa, ca, pb, cb, rfl, ho7, hf7, l7, hR7, h7⟩
      have ej : wi64 ((j : Int) + 1) = ((j + 1 : Nat) : Int) := by rw [wi64_in (by omega)]; omega
      have hjo : j < out.length := by omega
      simp only [T7b1, asCons_cons, asInt_int, asSlice_slice, asNil_nil]
      have hro : RdI σ7 .u64 p3 rs := RdR.ints (old := old) rd3 σ7 ho7
      obtain ⟨off, s, rfl, hRow⟩ := hR7.rowOf (by intro e; have := congrArg List.length e; simp only [List.length_map, List.length_nil] at this; omega)
      rw [wp_bif, if_pos (by simp; omega), wp_join, wp_get, wp_rdJ hro hj, wp_get, wp_grd]
      refine ⟨newN_ok (Nat.le_refl _) hf7 (fun b hb => by cases hb), ?_⟩
      rw [wp_act, bdSl_eq]
      simp only [asSlice_slice, asSome_some]
      have hF8 := Frm.new σ7 [.int .u64 (rs.getD j 0)] 1 NoB
      have hR8 := Row.new σ7 1 [.int .u64 (rs.getD j 0)] 1 (by decide) rfl (by intro y hy; simp at hy; subst hy; rfl)
      have hn8 : (σ7.newBlk [.int .u64 (rs.getD j 0)] 1).n = σ7.n + 1 := rfl
      generalize σ7.newBlk [.int .u64 (rs.getD j 0)] 1 = σ8 at hF8 hR8 hn8
      have hf8 := hF8.fr hf7
      rw [wp_get, wp_grdJ hj, Int.toNat_natCast, wp_rowR (v := .int .u64 (out.getD j 0)) (hF8.rowN hRow) (ints_get hjo), asInt_int, wp_get, wp_grd]
      refine ⟨newN_ok hF8.n hf8 (fun b hb => by simp at hb; omega), ?_⟩
      rw [wp_act, bdSl_eq]
      simp only [asSlice_slice]
      have hF9 := Frm.new σ8 [.int .u64 (out.getD j 0)] 1 NoB
      have hR9 := Row.new σ8 1 [.int .u64 (out.getD j 0)] 1 (by decide) rfl (by intro y hy; simp at hy; subst hy; rfl)
      have hn9 : (σ8.newBlk [.int .u64 (out.getD j 0)] 1).n = σ8.n + 1 := rfl
      generalize σ8.newBlk [.int .u64 (out.getD j 0)] 1 = σ9 at hF9 hR9 hn9
      have hF79 : Frm σ7 σ9 NoB := hF8.seq hF9
      have h9 := h7.grow hF79
      have hN7 := l7.n
      rw [wp_get]
      refine h9.wpR (.inr ⟨0, 1, rfl, hF9.rowN hR8⟩) (by omega) (fun i hi => hi.elim (fun h => h.elim) fun h => h.2) (by simp; omega) (by simp; omega) fun σ10 pa1 ca1 hF10 h10 => ?_
      have hob7 : ob < N0 := hobl (by simp)
      have hRow10 := hF10.row (hF79.rowN hRow) fun h => by
        obtain ⟨ba, _, _, h1, _, e⟩ := h
        omega
      rw [wp_get, wp_grd]
      refine ⟨chks_one (v := .int .u64 (out.getD j 0)) (τ := σ10) (by
        have := hRow10.ld (i := j) (v := .int .u64 (out.getD j 0)) (ints_get hjo)
        rw [Nat.mul_one]
        exact this), ?_⟩
      rw [wp_get, wp_grd]
      refine ⟨chkO_one (hF10.get σ8.n (by omega) fun h => by
        obtain ⟨ba, _, _, _, h2, e⟩ := h
        exact h2 (.inr ⟨by omega, by omega⟩)), ?_⟩
      have hR10 := hF10.row hR9 fun h => by
        obtain ⟨ba, _, _, _, h2, e⟩ := h
        exact h2 (.inr ⟨by omega, by omega⟩)
      have hn10 := hF10.n
      refine h10.swap.wpR (.inr ⟨0, 1, rfl, hR10⟩) (by omega) (fun i hi => hi.elim (fun h => h.elim) fun h => by omega) (by simp; omega) (by simp; omega) fun σ11 pb1 cb1 hF11 h11 => ?_
      rw [wp_ret]
      simp only [T7k2, sw_same, asCons_cons, asSlice_slice, asNil_nil]
      rw [wp_ret, ej]
      have ex : rs.take (j + 1) = rs.take j ++ [rs.getD j 0] := by
        rw [take_succ' rs j hj]
        simp [List.getD, hj]
      have ey : out.take (j + 1) = out.take j ++ [out.getD j 0] := by
        rw [take_succ' out j hjo]
        simp [List.getD, hjo]
      rw [ex, ey]
      refine ⟨pa1, ca1, pb1, cb1, rfl, hF11.old.trans (hF10.old.trans (hF79.old.trans ho7)), hF11.fr (hF10.fr (hF79.fr hf7)), ((l7.step hF79 fun i _ h => h.elim).step hF10 fun i _ h => ?_).step hF11 fun i _ h => ?_, .inr ⟨off, s, rfl, hF11.row hRow10 fun h => ?_⟩, h11.swap.weak fun i h => h.elim⟩
      · obtain ⟨ba, _, _, h1, _, e⟩ := h
        omega
      · obtain ⟨ba, _, _, h1, _, e⟩ := h
        omega
      · obtain ⟨ba, _, _, h1, _, e⟩ := h
        omega
    · rintro st σ7 ⟨pa, ca, pb, cb, rfl, ho7, hf7, l7, hR7, h7⟩
      rw [List.take_length, ← hout, List.take_length] at h7
      simp only [T7b1, asCons_cons, asInt_int, asSlice_slice, asNil_nil]
      rw [wp_bif, if_neg (by simp), wp_ret]
      simp only [T7k7, sw_same, asCons_cons, asInt_int, asSlice_slice, asNil_nil]
      refine wp_makeMap fun σ8 hF8 hn8 m8 => ?_
      have l8 := l7.step hF8 fun i _ h => h.elim
      have r8 := (h7.grow hF8).weak (E' := (· = σ7.n)) fun i hi => .inr ⟨by omega, by omega⟩
      rw [hoe] at r8
      exact wp_walk rfl rfl rfl hM hi hW hH hT hBd hU hUh hUt (by omega) (by omega) (by omega) hrb hr3 hC ⟨l8, r8, m8⟩ l7.n false
end Go.Pg
