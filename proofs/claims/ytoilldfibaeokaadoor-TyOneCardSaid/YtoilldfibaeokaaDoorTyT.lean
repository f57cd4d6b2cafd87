/- Layer 5: texts of types: variables that are others; unlike types without variables. -/
import Derived.Test.YtoilldfibaeokaaDoorTyN
namespace Go.Pg
open Go.Proofs

/-! ### variables by so many -/
theorem alone_var {d : TA × List Value} {l : List AT} (h : aloneM (.mk d l) = true) : (0 ≤ d.1.var ∧ d.1.var ≤ 1999) ∧ aloneL l = true := by
  rw [aloneM] at h
  simp only [Bool.and_eq_true, decide_eq_true_eq] at h
  exact ⟨h.1.2.1, h.2⟩
theorem strip_mov {y : Int} {e d : TA × List Value} {m l : List AT} (h : strip (.mk e m) = movT y (strip (.mk d l))) : e.1 = mvA y d.1 ∧ stripL m = movL y (stripL l) := by
  rw [strip, strip, movT] at h
  injection h with h1 h2
  exact ⟨h1, h2⟩
theorem any_shift {y v : Int} : ∀ l : List Int, (l.map (· + y)).any (· == v + y) = l.any (· == v)
  | [] => rfl
  | a :: l => by
    rw [List.map_cons, List.any_cons, List.any_cons, any_shift l]
    have : (a + y == v + y) = (a == v) := by
      rw [Bool.eq_iff_iff, beq_iff_eq, beq_iff_eq]
      omega
    rw [this]
mutual
theorem varsM_mov {y : Int} (hy : 0 ≤ y ∧ y ≤ 500) : ∀ (x u : AT) (acc : List Int), strip x = movT y (strip u) → aloneM u = true → varsM x (acc.map (· + y)) = (varsM u acc).map (· + y)
  | .mk e m, .mk d l, acc, h, ha => by
    obtain ⟨h1, h2⟩ := strip_mov h
    obtain ⟨hv, hl⟩ := alone_var ha
    rw [varsM, varsM, h1]
    unfold mvA
    by_cases h7 : d.1.kind = 7
    · simp only [if_pos h7]
      rw [wi64_in (by omega), any_shift]
      split
      · rfl
      · rw [List.map_append]
        rfl
    · simp only [if_neg h7]
      exact varsL_mov hy m l acc h2 hl
theorem varsL_mov {y : Int} (hy : 0 ≤ y ∧ y ≤ 500) : ∀ (m l : List AT) (acc : List Int), stripL m = movL y (stripL l) → aloneL l = true → varsL m (acc.map (· + y)) = (varsL l acc).map (· + y)
  | [], [], acc, _, _ => by rw [varsL, varsL]
  | [], _ :: _, _, h, _ => by rw [stripL, stripL, movL] at h; cases h
  | _ :: _, [], _, h, _ => by rw [stripL, stripL, movL] at h; cases h
  | a :: m, b :: l, acc, h, ha => by
    rw [stripL, stripL, movL] at h
    injection h with h1 h2
    rw [aloneL, Bool.and_eq_true] at ha
    rw [varsL, varsL, varsM_mov hy a b acc h1 ha.1, varsL_mov hy m l _ h2 ha.2]
end
mutual
theorem showM_mov {y : Int} (hy : 0 ≤ y ∧ y ≤ 500) {nm nm' : Int → List UInt8} (hn : ∀ v, nm' (v + y) = nm v) : ∀ (x u : AT), strip x = movT y (strip u) → aloneM u = true → showM nm' x = showM nm u
  | .mk e m, .mk d l, h, ha => by
    obtain ⟨h1, h2⟩ := strip_mov h
    obtain ⟨hv, hl⟩ := alone_var ha
    rw [showM, showM, h1, showL_mov hy hn m l h2 hl]
    unfold showN mvA
    by_cases h7 : d.1.kind = 7
    · simp only [if_pos h7]
      rw [wi64_in (by omega), hn]
    · simp only [if_neg h7]
theorem showL_mov {y : Int} (hy : 0 ≤ y ∧ y ≤ 500) {nm nm' : Int → List UInt8} (hn : ∀ v, nm' (v + y) = nm v) : ∀ (m l : List AT), stripL m = movL y (stripL l) → aloneL l = true → showL nm' m = showL nm l
  | [], [], _, _ => by rw [showL, showL]
  | [], _ :: _, h, _ => by rw [stripL, stripL, movL] at h; cases h
  | _ :: _, [], h, _ => by rw [stripL, stripL, movL] at h; cases h
  | a :: m, b :: l, h, ha => by
    rw [stripL, stripL, movL] at h
    injection h with h1 h2
    rw [aloneL, Bool.and_eq_true] at ha
    rw [showL, showL, showM_mov hy hn a b h1 ha.1, showL_mov hy hn m l h2 ha.2]
end
theorem nmOf_shift {y v : Int} : ∀ (l : List Int) (i : Nat), nmOf i (l.map (· + y)) (v + y) = nmOf i l v
  | [], i => rfl
  | a :: l, i => by
    rw [List.map_cons, nmOf, nmOf, nmOf_shift l (i + 1)]
    by_cases h : a = v
    · rw [if_pos h, if_pos (by omega)]
    · rw [if_neg h, if_neg (by omega)]
theorem show_moved {y : Int} (hy : 0 ≤ y ∧ y ≤ 500) {x u : AT} (h : strip x = movT y (strip u)) (ha : aloneM u = true) : showM (nmOf 0 (varsM x [])) x = showM (nmOf 0 (varsM u [])) u := by
  have e := varsM_mov hy x u [] h ha
  rw [List.map_nil] at e
  rw [e]
  exact showM_mov hy (fun v => nmOf_shift _ 0) x u h ha
theorem fits_mov {y : Int} : ∀ (n : Nat) (t : Tr TA), fitT n t → fitT n (movT y t)
  | 0, _, h => h.elim
  | n + 1, .mk a l, ⟨h1, h2, h3⟩ => by
    rw [movT_eq]
    refine ⟨by simpa [Tr.args] using h1, h2, fun x hx => ?_⟩
    obtain ⟨z, hz, rfl⟩ := List.mem_map.1 hx
    exact fits_mov n z (h3 z hz)

/-! ### types without variables -/
theorem tl_loop (s : ByteArray) : ∀ (d i : Nat) (r : List UInt8), s.size - i = d → ByteArray.toList.loop s i r = r.reverse ++ s.data.toList.drop i
  | 0, i, r, h => by
    unfold ByteArray.toList.loop
    rw [if_neg (by omega), List.drop_of_length_le (by have : s.data.toList.length = s.size := rfl
                                                      omega), List.append_nil]
  | d + 1, i, r, h => by
    have hl : i < s.data.toList.length := by
      have : s.data.toList.length = s.size := rfl
      omega
    unfold ByteArray.toList.loop
    rw [if_pos (by omega), tl_loop s d (i + 1) _ (by omega), List.drop_eq_getElem_cons hl, List.reverse_cons, List.append_assoc]
    have e : s.get! i = s.data.toList[i] := by
      cases s with
      | mk a => simp only [ByteArray.get!]; rw [getElem!_pos a i (by simpa using hl)]; rfl
    rw [e]
    rfl
theorem tl_data (s : ByteArray) : s.toList = s.data.toList := by
  unfold ByteArray.toList
  rw [tl_loop s _ 0 [] rfl]
  rfl
theorem tl_bs (l : List UInt8) : (bs l).toList = l := tl_data _

mutual
def novM : AT → Bool
  | .mk d l => d.1.kind != 7 && novL l
def novL : List AT → Bool
  | [] => true
  | a :: l => novM a && novL l
end
mutual
theorem nov_vars : ∀ (t : AT) (acc : List Int), (varsM t acc).length = 0 → acc = [] ∧ novM t = true
  | .mk d l, acc, h => by
    rw [varsM] at h
    rw [novM]
    by_cases h7 : d.1.kind = 7
    · rw [if_pos h7] at h
      split at h
      · rename_i h2
        have := List.length_eq_zero_iff.1 h
        subst this
        cases h2
      · simp at h
    · rw [if_neg h7] at h
      obtain ⟨h1, h2⟩ := nov_varsL l acc h
      exact ⟨h1, by simp [h7, h2]⟩
theorem nov_varsL : ∀ (l : List AT) (acc : List Int), (varsL l acc).length = 0 → acc = [] ∧ novL l = true
  | [], acc, h => by
    rw [varsL] at h
    rw [novL]
    exact ⟨List.length_eq_zero_iff.1 h, rfl⟩
  | a :: l, acc, h => by
    rw [varsL] at h
    rw [novL]
    obtain ⟨h1, h2⟩ := nov_varsL l _ h
    obtain ⟨h3, h4⟩ := nov_vars a acc (by rw [h1]; rfl)
    exact ⟨h3, by rw [h4, h2]; rfl⟩
end

def isLet (b : UInt8) : Prop := 97 ≤ b.toNat ∧ b.toNat ≤ 122
def noL : List UInt8 → Prop
  | [] => True
  | b :: _ => ¬ isLet b
theorem word_cut : ∀ (w w' r r' : List UInt8), (∀ b ∈ w, isLet b) → (∀ b ∈ w', isLet b) → noL r → noL r' → w ++ r = w' ++ r' → w = w' ∧ r = r'
  | [], [], r, r', _, _, _, _, h => ⟨rfl, h⟩
  | [], b :: w', r, r', _, hw', hr, _, h => by
    simp only [List.nil_append, List.cons_append] at h
    subst h
    exact absurd (hw' b (by simp)) hr
  | b :: w, [], r, r', hw, _, _, hr', h => by
    simp only [List.nil_append, List.cons_append] at h
    subst h
    exact absurd (hw b (by simp)) hr'
  | b :: w, c :: w', r, r', hw, hw', hr, hr', h => by
    simp only [List.cons_append, List.cons.injEq] at h
    obtain ⟨h1, h2⟩ := word_cut w w' r r' (fun x hx => hw x (by simp [hx])) (fun x hx => hw' x (by simp [hx])) hr hr' h.2
    exact ⟨by rw [h.1, h1], h2⟩

structure WT (t : AT) : Prop where
  al : aloneM t = true
  od : oddM t = false
  nv : novM t = true
theorem WT.args {t : AT} (h : WT t) : ∀ u ∈ t.args, WT u := by
  obtain ⟨⟨d, c⟩, l⟩ := t
  obtain ⟨h1, h2, h3⟩ := h
  rw [aloneM] at h1
  rw [oddM] at h2
  rw [novM] at h3
  simp only [Bool.and_eq_true, Bool.or_eq_false_iff] at h1 h2 h3
  have key : ∀ m : List AT, aloneL m = true → oddL m = false → novL m = true → ∀ u ∈ m, WT u := by
    intro m
    induction m with
    | nil => intro _ _ _ u hu; cases hu
    | cons a m ih =>
      intro a1 a2 a3 u hu
      rw [aloneL, Bool.and_eq_true] at a1
      rw [oddL, Bool.or_eq_false_iff] at a2
      rw [novL, Bool.and_eq_true] at a3
      rcases List.mem_cons.1 hu with rfl | hu
      · exact ⟨a1.1, a2.1, a3.1⟩
      · exact ih a1.2 a2.2 a3.2 u hu
  exact key l h1.2 h2.2.2 h3.2

abbrev wInt : List UInt8 := [105, 110, 116]
abbrev wBool : List UInt8 := [98, 111, 111, 108]
abbrev wUnit : List UInt8 := [117, 110, 105, 116]
theorem WT.shape {t : AT} (h : WT t) :
    (∃ w, (∀ nm, showM nm t = w) ∧ w ≠ [] ∧ (∀ b ∈ w, isLet b) ∧ t.args = [] ∧ t.v = 0 ∧ ((t.k = 1 ∧ t.nm.data.toList = [] ∧ w = wInt) ∨ (t.k = 2 ∧ t.nm.data.toList = [] ∧ w = wBool) ∨ (t.k = 3 ∧ t.nm.data.toList = [] ∧ w = wUnit) ∨ (t.k = 4 ∧ w = t.nm.data.toList ∧ w ≠ wInt ∧ w ≠ wBool ∧ w ≠ wUnit))) ∨
    (∃ a b, t.k = 5 ∧ t.nm.data.toList = [] ∧ t.v = 0 ∧ t.args = [a, b] ∧ ∀ nm, showM nm t = 40 :: (showM nm a ++ (32 :: 45 :: 62 :: 32 :: (showM nm b ++ [41])))) ∨
    (∃ a, t.k = 6 ∧ t.nm.data.toList = [] ∧ t.v = 0 ∧ t.args = [a] ∧ ∀ nm, showM nm t = 40 :: (showM nm a ++ [32, 114, 101, 102, 41])) := by
  obtain ⟨h1, h2, h3⟩ := h
  rw [aloneM_eq] at h1
  rw [oddM_eq] at h2
  have h3' : t.k ≠ 7 := by
    cases t
    rw [novM, Bool.and_eq_true] at h3
    exact bne_iff_ne.1 h3.1
  simp only [Bool.and_eq_true, decide_eq_true_eq, Bool.or_eq_false_iff, Bool.not_eq_true', beq_iff_eq] at h1 h2
  obtain ⟨⟨⟨⟨⟨k1, k7⟩, hl⟩, hnm⟩, ⟨v0, v1⟩, hv⟩, _⟩ := h1
  have hv0 : t.v = 0 := by
    have e7 : (t.k != 7) = true := by simpa using h3'
    rw [e7, Bool.and_true] at hv
    simpa using hv
  have e0 : t.nm.toList = t.nm.data.toList := tl_data _
  have hnm' : t.k ≠ 4 → t.nm.data.toList = [] := fun h4 => by
    rw [show (t.k == 4) = false by simpa using h4, e0, tl_bs] at hnm
    simpa using hnm
  by_cases c5 : t.k = 5
  · refine .inr (.inl ?_)
    rw [c5] at hl
    obtain ⟨a, b, hab⟩ : ∃ a b, t.args = [a, b] := by
      have : t.args.length = 2 := by unfold argsM at hl; simp at hl; omega
      match t.args, this with
      | [a, b], _ => exact ⟨a, b, rfl⟩
    refine ⟨a, b, c5, hnm' (by omega), hv0, hab, fun nm => ?_⟩
    rw [showM_eq, showN, if_neg h3', hab, if_pos ⟨c5, rfl⟩]
    simp only [List.map_cons, List.map_nil, List.getD_cons_zero, List.getD_cons_succ, List.cons_append, List.nil_append, List.append_assoc]
  by_cases c6 : t.k = 6
  · refine .inr (.inr ?_)
    rw [c6] at hl
    obtain ⟨a, hab⟩ : ∃ a, t.args = [a] := by
      have : t.args.length = 1 := by unfold argsM at hl; simp at hl; omega
      match t.args, this with
      | [a], _ => exact ⟨a, rfl⟩
    refine ⟨a, c6, hnm' (by omega), hv0, hab, fun nm => ?_⟩
    rw [showM_eq, showN, if_neg h3', hab, if_neg (fun h => absurd h.1 c5), if_pos ⟨c6, rfl⟩]
    simp only [List.map_cons, List.map_nil, List.getD_cons_zero, List.cons_append, List.nil_append]
  refine .inl ?_
  have hl0 : t.args = [] := by
    unfold argsM at hl
    rw [if_neg c5, if_neg c6] at hl
    exact List.length_eq_zero_iff.1 (by omega)
  have hlet : ∀ w : List UInt8, w = wInt ∨ w = wBool ∨ w = wUnit → w ≠ [] ∧ ∀ b ∈ w, isLet b := by
    rintro w (rfl | rfl | rfl) <;> refine ⟨by simp, fun b hb => ?_⟩ <;> simp only [List.mem_cons, List.mem_nil_iff, or_false] at hb <;> unfold isLet
    · rcases hb with rfl | rfl | rfl <;> decide
    · rcases hb with rfl | rfl | rfl | rfl <;> decide
    · rcases hb with rfl | rfl | rfl | rfl <;> decide
  by_cases c1 : t.k = 1
  · refine ⟨wInt, fun nm => ?_, (hlet _ (.inl rfl)).1, (hlet _ (.inl rfl)).2, hl0, hv0, .inl ⟨c1, hnm' (by omega), rfl⟩⟩
    rw [showM_eq, showN, if_neg h3', if_neg (fun h => c5 h.1), if_neg (fun h => c6 h.1), if_pos c1]
  by_cases c2 : t.k = 2
  · refine ⟨wBool, fun nm => ?_, (hlet _ (.inr (.inl rfl))).1, (hlet _ (.inr (.inl rfl))).2, hl0, hv0, .inr (.inl ⟨c2, hnm' (by omega), rfl⟩)⟩
    rw [showM_eq, showN, if_neg h3', if_neg (fun h => c5 h.1), if_neg (fun h => c6 h.1), if_neg c1, if_pos c2]
  by_cases c3 : t.k = 3
  · refine ⟨wUnit, fun nm => ?_, (hlet _ (.inr (.inr rfl))).1, (hlet _ (.inr (.inr rfl))).2, hl0, hv0, .inr (.inr (.inl ⟨c3, hnm' (by omega), rfl⟩))⟩
    rw [showM_eq, showN, if_neg h3', if_neg (fun h => c5 h.1), if_neg (fun h => c6 h.1), if_neg c1, if_neg c2, if_pos c3]
  have c4 : t.k = 4 := by
    have k1 : 1 ≤ t.k := k1
    have k7 : t.k ≤ 7 := k7
    omega
  obtain ⟨hob, hkw, _⟩ := h2
  unfold keyW at hkw
  simp only [Bool.or_eq_false_iff, beq_eq_false_iff_ne, tl_bs, e0] at hkw
  refine ⟨t.nm.data.toList, fun nm => ?_, ?_, fun b hb => ?_, hl0, hv0, .inr (.inr (.inr ⟨c4, rfl, hkw.1, hkw.2.1, hkw.2.2⟩))⟩
  · rw [showM_eq, showN, if_neg h3', if_neg (fun h => c5 h.1), if_neg (fun h => c6 h.1), if_neg c1, if_neg c2, if_neg c3, if_pos c4]
  · rw [show (t.k == 4) = true by simpa using c4, e0, tl_bs] at hnm
    simpa using hnm
  · unfold oddB at hob
    rw [List.any_eq_false] at hob
    have := hob b hb
    simp only [Bool.or_eq_true, decide_eq_true_eq, not_or] at this
    unfold isLet
    omega

theorem same_of {t u : AT} (hk : t.k = u.k) (hn : t.nm.data.toList = u.nm.data.toList) (hv : t.v = u.v) (hl : t.args.length = u.args.length) (ha : sameL t.args u.args = true) : sameM t u = true := by
  have hk : t.a.1.kind = u.a.1.kind := hk
  have hn : t.a.1.name.data.toList = u.a.1.name.data.toList := hn
  have hv : t.a.1.var = u.a.1.var := hv
  rw [sameM_eq, headEq, ha, hk, hv, hl, tl_data, tl_data, hn]
  simp
theorem show_inj {nm nm' : Int → List UInt8} : ∀ (k : Nat) (t u : AT) (r r' : List UInt8), SizeOf.sizeOf t ≤ k → WT t → WT u → noL r → noL r' → showM nm t ++ r = showM nm' u ++ r' → sameM t u = true ∧ r = r' := by
  intro k
  induction k with
  | zero => intro t u r r' h; cases t; simp at h
  | succ k ih =>
    intro t u r r' hk ht hu hr hr' h
    have hsz : ∀ x ∈ t.args, SizeOf.sizeOf x ≤ k := by
      cases t with
      | mk d l =>
        intro u hu
        have := List.sizeOf_lt_of_mem (show u ∈ l from hu)
        simp at hk
        omega
    have h40 : ¬ isLet 40 := by unfold isLet; decide
    have h41 : ∀ r, noL (41 :: r) := fun r => by
      unfold noL isLet
      simp
    have h32 : ∀ r, noL (32 :: r) := fun r => by
      unfold noL isLet
      simp
    rcases ht.shape with ⟨w, e1, e2, e3, e4, e5, e6⟩ | ⟨a, b, e1, e2, e3, e4, e5⟩ | ⟨a, e1, e2, e3, e4, e5⟩ <;> rcases hu.shape with ⟨w', f1, f2, f3, f4, f5, f6⟩ | ⟨a', b', f1, f2, f3, f4, f5⟩ | ⟨a', f1, f2, f3, f4, f5⟩
    · rw [e1, f1] at h
      obtain ⟨hw, hrr⟩ := word_cut w w' r r' e3 f3 hr hr' h
      refine ⟨?_, hrr⟩
      subst hw
      have hkn : t.k = u.k ∧ t.nm.data.toList = u.nm.data.toList := by
        rcases e6 with ⟨k1, n1, q1⟩ | ⟨k1, n1, q1⟩ | ⟨k1, n1, q1⟩ | ⟨k1, n1, q1, q2, q3⟩ <;> rcases f6 with ⟨k2, n2, s1⟩ | ⟨k2, n2, s1⟩ | ⟨k2, n2, s1⟩ | ⟨k2, n2, s1, s2, s3⟩ <;> first
          | exact ⟨by omega, by rw [n1, n2]⟩
          | exact ⟨by omega, by rw [← n1, ← n2]⟩
          | (rw [q1] at s1; exact absurd s1 (by decide))
          | exact absurd q1 s1
          | exact absurd q1 s2
          | exact absurd q1 s3
          | exact absurd s1 q1
          | exact absurd s1 q2
          | exact absurd s1 q3
      exact same_of hkn.1 hkn.2 (by rw [e5, f5]) (by rw [e4, f4]) (by rw [e4, sameL])
    · rw [e1, f5] at h
      cases w with
      | nil => exact absurd rfl e2
      | cons c w =>
        simp only [List.cons_append, List.cons.injEq] at h
        have := e3 c (by simp)
        rw [h.1] at this
        exact absurd this h40
    · rw [e1, f5] at h
      cases w with
      | nil => exact absurd rfl e2
      | cons c w =>
        simp only [List.cons_append, List.cons.injEq] at h
        have := e3 c (by simp)
        rw [h.1] at this
        exact absurd this h40
    · rw [e5, f1] at h
      cases w' with
      | nil => exact absurd rfl f2
      | cons c w =>
        simp only [List.cons_append, List.cons.injEq] at h
        have := f3 c (by simp)
        rw [← h.1] at this
        exact absurd this h40
    · rw [e5, f5] at h
      simp only [List.cons_append, List.append_assoc, List.cons.injEq, true_and] at h
      have wa := ht.args a (by rw [e4]; simp)
      have wb := ht.args b (by rw [e4]; simp)
      have wa' := hu.args a' (by rw [f4]; simp)
      have wb' := hu.args b' (by rw [f4]; simp)
      obtain ⟨g1, g2⟩ := ih a a' _ _ (hsz a (by rw [e4]; simp)) wa wa' (h32 _) (h32 _) h
      simp only [List.cons.injEq, true_and] at g2
      obtain ⟨g3, g4⟩ := ih b b' _ _ (hsz b (by rw [e4]; simp)) wb wb' (h41 _) (h41 _) g2
      simp only [List.nil_append, List.cons.injEq, true_and] at g4
      exact ⟨same_of (by omega) (by rw [e2, f2]) (by rw [e3, f3]) (by rw [e4, f4]; rfl) (by rw [e4, f4, sameL, sameL, sameL, g1, g3]; rfl), g4⟩
    · rw [e5, f5] at h
      simp only [List.cons_append, List.append_assoc, List.cons.injEq, true_and] at h
      have wa := ht.args a (by rw [e4]; simp)
      have wa' := hu.args a' (by rw [f4]; simp)
      obtain ⟨g1, g2⟩ := ih a a' _ _ (hsz a (by rw [e4]; simp)) wa wa' (h32 _) (h32 _) h
      simp at g2
    · rw [e5, f1] at h
      cases w' with
      | nil => exact absurd rfl f2
      | cons c w =>
        simp only [List.cons_append, List.cons.injEq] at h
        have := f3 c (by simp)
        rw [← h.1] at this
        exact absurd this h40
    · rw [e5, f5] at h
      simp only [List.cons_append, List.append_assoc, List.cons.injEq, true_and] at h
      have wa := ht.args a (by rw [e4]; simp)
      have wa' := hu.args a' (by rw [f4]; simp)
      obtain ⟨g1, g2⟩ := ih a a' _ _ (hsz a (by rw [e4]; simp)) wa wa' (h32 _) (h32 _) h
      simp at g2
    · rw [e5, f5] at h
      simp only [List.cons_append, List.append_assoc, List.cons.injEq, true_and] at h
      have wa := ht.args a (by rw [e4]; simp)
      have wa' := hu.args a' (by rw [f4]; simp)
      obtain ⟨g1, g2⟩ := ih a a' _ _ (hsz a (by rw [e4]; simp)) wa wa' (h32 _) (h32 _) h
      simp only [List.nil_append, List.cons.injEq, true_and] at g2
      exact ⟨same_of (by omega) (by rw [e2, f2]) (by rw [e3, f3]) (by rw [e4, f4]; rfl) (by rw [e4, f4, sameL, sameL, g1]; rfl), g2⟩
mutual
theorem same_show (nm : Int → List UInt8) : ∀ (t u : AT), sameM t u = true → showM nm t = showM nm u
  | .mk d l, .mk e m, h => by
    rw [sameM, headEq] at h
    simp only [Bool.and_eq_true, beq_iff_eq, tl_data] at h
    obtain ⟨⟨⟨h1, h2, h3⟩, h4⟩, h5⟩ := h
    have h1 : d.1.kind = e.1.kind := h1
    have h2 : d.1.name.data.toList = e.1.name.data.toList := h2
    have h3 : d.1.var = e.1.var := h3
    have h4 : l.length = m.length := h4
    rw [showM, showM, same_showL nm l m h4 h5]
    unfold showN
    rw [h1, h2, h3]
theorem same_showL (nm : Int → List UInt8) : ∀ (l m : List AT), l.length = m.length → sameL l m = true → showL nm l = showL nm m
  | [], [], _, _ => rfl
  | [], _ :: _, h, _ => by simp at h
  | _ :: _, [], h, _ => by simp at h
  | a :: l, b :: m, h, h' => by
    rw [sameL, Bool.and_eq_true] at h'
    rw [showL, showL, same_show nm a b h'.1, same_showL nm l m (by simpa using h) h'.2]
end
/-- Unlike types without variables are written unlike. -/
theorem show_same {t u : AT} (ht : WT t) (hu : WT u) (nm nm' : Int → List UInt8) : ((showM nm t == showM nm' u) = sameM t u) ∨ nm ≠ nm' := by
  by_cases hn : nm = nm'
  case neg => exact .inr hn
  subst hn
  refine .inl ?_
  by_cases h : showM nm t = showM nm u
  · have := (show_inj (nm := nm) (nm' := nm) _ t u [] [] (Nat.le_refl _) ht hu trivial trivial (by rw [h])).1
    rw [this, h]
    simp
  · have hs : sameM t u = false := by
      rw [Bool.eq_false_iff]
      exact fun e => h (same_show nm t u e)
    rw [hs]
    simpa using h
end Go.Pg
