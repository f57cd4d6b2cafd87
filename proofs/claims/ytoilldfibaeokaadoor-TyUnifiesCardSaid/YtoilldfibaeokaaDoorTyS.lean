/- Layer 5: a type that a law is given, as a tree with its cells; Same. -/
import Derived.Test.YtoilldfibaeokaaDoorTyF
namespace Go.Pg
open Go.Proofs

mutual
def strip : AT → Tr TA
  | .mk d l => .mk d.1 (stripL l)
def stripL : List AT → List (Tr TA)
  | [] => []
  | a :: l => strip a :: stripL l
end
theorem stripL_map : ∀ l : List AT, stripL l = l.map strip
  | [] => by rw [stripL]; rfl
  | a :: l => by rw [stripL, stripL_map l]; rfl

theorem choose_list {α : Type} (n : Nat) (P : Nat → α → Prop) (h : ∀ i, i < n → ∃ u, P i u) : ∃ us : List α, us.length = n ∧ ∀ i (hi : i < us.length), P i us[i] := by
  refine ⟨List.ofFn fun i : Fin n => (h i.1 i.2).choose, by simp, fun i hi => ?_⟩
  have hi' : i < n := by simpa using hi
  rw [List.getElem_ofFn]
  exact (h i hi').choose_spec

theorem AFull.of {σ : AHeap} {t : AT} {p : Option Addr} {cap : Nat} (hl : t.args.length ≤ 1000) (hc : t.c = tcells t.a.1 (.slice p t.args.length cap)) (hr : RowOf σ NoB 4 (fun cs (u : AT) => cs = u.c ∧ AFull σ u) p t.args) : AFull σ t := by
  intro n
  cases n with
  | zero => exact ⟨hl, p, cap, hc⟩
  | succ n => exact ⟨hl, p, cap, hc, fun i hi => by
      obtain ⟨x, cs, q1, q2, q3, q4, q5⟩ := hr i hi
      exact ⟨x, cs, q1, q2, q3, q4, q5 n⟩⟩

theorem full_of {σ : AHeap} {Y : Nat → Prop} : ∀ (n : Nat) (cs : List Value) (t : Tr TA), VIn L4 σ Y n cs t → fitT n t → ∃ u : AT, u.c = cs ∧ AFull σ u ∧ strip u = t := by
  intro n
  induction n with
  | zero => intro cs t _ h; exact h.elim
  | succ n ih =>
    rintro cs ⟨a, args⟩ ⟨_, e, p, cap, rfl, hr⟩ ⟨hl4, _, hfit⟩
    simp only [Tr.a, Tr.args] at hr hl4 hfit ⊢
    obtain ⟨us, hul, hus⟩ := choose_list (α := AT) args.length (fun i u => ∃ h : i < args.length, ∃ x cs, p = some x ∧ Vis σ NoB x ∧ σ.rdN (aadd x (i * 4)) 4 = some cs ∧ u.c = cs ∧ AFull σ u ∧ strip u = args[i]) (fun i hi => by
      obtain ⟨x, cs, q1, q2, q3, q4⟩ := hr i hi
      obtain ⟨u, r1, r2, r3⟩ := ih cs _ q4 (hfit _ (List.getElem_mem hi))
      exact ⟨u, hi, x, cs, q1, q2.imp id fun h => ⟨h.1, fun h => h⟩, q3, r1, r2, r3⟩)
    refine ⟨.mk (a, L4.cells a e (.slice p args.length cap)) us, rfl, ?_, ?_⟩
    · refine AFull.of (p := p) (cap := cap) (by simp only [Tr.args]; omega) (by simp only [Tr.args, hul, AT.c, Tr.a]) fun i hi => ?_
      obtain ⟨hi', x, cs, q1, q2, q3, q4, q5, _⟩ := hus i hi
      exact ⟨x, cs, q1, q2, q3, q4.symm, q5⟩
    · rw [strip, stripL_map]
      congr 1
      refine List.ext_getElem (by simp [hul]) fun i h1 h2 => ?_
      obtain ⟨hi', _, _, _, _, _, _, _, q6⟩ := hus i (by simpa using h1)
      rw [List.getElem_map, q6]

/-! ### what hangs on the tree alone -/
theorem strip_inj {t u : AT} (h : strip t = strip u) : t.a.1 = u.a.1 ∧ stripL t.args = stripL u.args := by
  cases t
  cases u
  rw [strip, strip] at h
  injection h with h1 h2
  exact ⟨h1, h2⟩
mutual
theorem measM_strip : ∀ (t u : AT) (n : Int), strip t = strip u → measM t n = measM u n
  | .mk d l, .mk e m, n, h => by
    obtain ⟨_, h2⟩ := strip_inj h
    rw [measM, measM, measL_strip l m (n + 1) h2]
theorem measL_strip : ∀ (l m : List AT) (n : Int), stripL l = stripL m → measL l n = measL m n
  | [], [], _, _ => rfl
  | [], _ :: _, _, h => by rw [stripL, stripL] at h; cases h
  | _ :: _, [], _, h => by rw [stripL, stripL] at h; cases h
  | a :: l, b :: m, n, h => by
    rw [stripL, stripL] at h
    injection h with h1 h2
    rw [measL, measL, measM_strip a b n h1]
    split
    · rfl
    · exact measL_strip l m _ h2
end
theorem stripL_len {l m : List AT} (h : stripL l = stripL m) : l.length = m.length := by
  rw [stripL_map, stripL_map] at h
  simpa using congrArg List.length h
mutual
theorem aloneM_strip : ∀ (t u : AT), strip t = strip u → aloneM t = aloneM u
  | .mk d l, .mk e m, h => by
    obtain ⟨h1, h2⟩ := strip_inj h
    have h1 : d.1 = e.1 := h1
    have h2 : stripL l = stripL m := h2
    rw [aloneM, aloneM, aloneL_strip l m h2, h1, stripL_len h2]
theorem aloneL_strip : ∀ (l m : List AT), stripL l = stripL m → aloneL l = aloneL m
  | [], [], _ => rfl
  | [], _ :: _, h => by rw [stripL, stripL] at h; cases h
  | _ :: _, [], h => by rw [stripL, stripL] at h; cases h
  | a :: l, b :: m, h => by
    rw [stripL, stripL] at h
    injection h with h1 h2
    rw [aloneL, aloneL, aloneM_strip a b h1, aloneL_strip l m h2]
end
theorem goodM_strip {t u : AT} (h : strip t = strip u) : goodM t = goodM u := by
  unfold goodM
  rw [measM_strip t u 0 h, aloneM_strip t u h]

/-! ### Same -/
abbrev headEq (a b : TA) : Bool := a.kind == b.kind && (a.name.toList == b.name.toList && a.var == b.var)
mutual
def sameM : AT → AT → Bool
  | .mk d l, t => headEq d.1 t.a.1 && (l.length == t.args.length) && sameL l t.args
def sameL : List AT → List AT → Bool
  | [], _ => true
  | _ :: _, [] => true
  | a :: l, b :: m => sameM a b && sameL l m
end
theorem sameM_eq (s t : AT) : sameM s t = (headEq s.a.1 t.a.1 && (s.args.length == t.args.length) && sameL s.args t.args) := by
  cases s
  rw [sameM]
  rfl
mutual
theorem sameM_strip : ∀ (t u s r : AT), strip t = strip u → strip s = strip r → sameM t s = sameM u r
  | .mk d l, .mk e m, s, r, h, h' => by
    obtain ⟨h1, h2⟩ := strip_inj h
    obtain ⟨h3, h4⟩ := strip_inj h'
    have h1 : d.1 = e.1 := h1
    have h2 : stripL l = stripL m := h2
    rw [sameM, sameM, h1, h3, stripL_len h2, stripL_len h4, sameL_strip l m _ _ h2 h4]
theorem sameL_strip : ∀ (l m x y : List AT), stripL l = stripL m → stripL x = stripL y → sameL l x = sameL m y
  | [], [], _, _, _, _ => by rw [sameL, sameL]
  | [], _ :: _, _, _, h, _ => by rw [stripL, stripL] at h; cases h
  | _ :: _, [], _, _, h, _ => by rw [stripL, stripL] at h; cases h
  | a :: l, b :: m, x, y, h, h' => by
    rw [stripL, stripL] at h
    injection h with h1 h2
    cases x with
    | nil => cases y with
      | nil => rw [sameL, sameL]
      | cons y ys => rw [stripL, stripL] at h'; cases h'
    | cons x xs => cases y with
      | nil => rw [stripL, stripL] at h'; cases h'
      | cons y ys =>
        rw [stripL, stripL] at h'
        injection h' with h3 h4
        rw [sameL, sameL, sameM_strip a b x y h1 h3, sameL_strip l m xs ys h2 h4]
end

section
variable {ov : Ov}
theorem wp_Same (hO : OvT ov) : ∀ (k : Nat) (σ : AHeap) (s t : AT), SizeOf.sizeOf s ≤ k → AFull σ s → AFull σ t →
    RetO ov 22 [.agg s.c.toArray, .agg t.c.toArray] σ (.bool (sameM s t)) := by
  intro k
  induction k with
  | zero => intro σ s t h; cases s; simp at h
  | succ k ih =>
    intro σ s t hk hs ht
    have hlen := hs.len
    have hlent := ht.len
    have hsz : ∀ u ∈ s.args, SizeOf.sizeOf u ≤ k := by
      cases s with
      | mk d l =>
        intro u hu
        have := List.sizeOf_lt_of_mem (show u ∈ l from hu)
        simp at hk
        omega
    obtain ⟨p, cap, hc, hrow⟩ := hs.row
    obtain ⟨p', cap', hc', hrow'⟩ := ht.row
    rw [hc, hc', sameM_eq]
    refine WpF.of (T22_eq _ _ _ _ _ _ _ _ _ _ _ _) (hO _ (by decide) (by decide) (by decide)) ?_
    rw [T22]
    refine wp_newQ fun σ1 hF1 hn1 hS1 => ?_
    refine wp_newQ fun σ2 hF2 hn2 hS2 => ?_
    have hS1 := hF2.stN hS1
    have hF := hF1.seq hF2
    clear hF1 hF2
    have bad : ∀ w : Bool, w = false → Wp PROG ov (T22k2 ⟨σ.n, 0, some 0⟩ ⟨σ1.n, 0, some 0⟩ .normal [.bool true]) σ2 fun _ vs σ' => ∃ v, vs = [v] ∧ v = .bool w ∧ Frm σ σ' NoB := fun w hw => by
      simp only [T22k2, sw_same, asCons_cons, asBool_bool, asNil_nil]
      rw [wp_bif, if_pos rfl, wp_ret]
      exact ⟨_, rfl, by rw [hw], hF⟩
    rw [wp_join, wp_ldF hS1 rfl, asInt_int, wp_ldF hS2 rfl, asInt_int, wp_bif]
    by_cases h1 : s.k = t.k
    case neg =>
      rw [if_neg (by simpa using h1), wp_ret]
      exact bad _ (by simp [headEq, h1])
    rw [if_pos (by simpa using h1), wp_ldF hS1 rfl, asStr_str, wp_ldF hS2 rfl, asStr_str, wp_bif]
    by_cases h2 : s.nm.toList = t.nm.toList
    case neg =>
      rw [if_neg (by simpa using h2), wp_ret]
      exact bad _ (by simp [headEq, h2])
    rw [if_pos (by simpa using h2), wp_ldF hS1 rfl, asInt_int, wp_ldF hS2 rfl, asInt_int, wp_bif]
    by_cases h3 : s.v = t.v
    case neg =>
      rw [if_neg (by simpa using h3), wp_ret]
      exact bad _ (by simp [headEq, h3])
    rw [if_pos (by simpa using h3), wp_ldF hS1 rfl, asSlice_slice, wp_ldF hS2 rfl, asSlice_slice, wp_ret]
    by_cases h4 : s.args.length = t.args.length
    case neg =>
      have e : (((s.args.length : Nat) : Int) != ((t.args.length : Nat) : Int)) = true := by simp; omega
      rw [e]
      exact bad _ (by simp [h4])
    have e : (((s.args.length : Nat) : Int) != ((t.args.length : Nat) : Int)) = false := by simp; omega
    rw [e]
    have e0 : (headEq s.a.1 t.a.1 && (s.args.length == t.args.length) && sameL s.args t.args) = sameL s.args t.args := by
      simp only [headEq, h1, h2, h3, h4, beq_self_eq_true, Bool.and_self, Bool.true_and]
    rw [e0]
    simp only [T22k2, sw_same, asCons_cons, asBool_bool, asNil_nil]
    rw [wp_bif, if_neg (by simp)]
    rw [wp_ldF hS1 rfl, asSlice_slice]
    refine Wp.count s.args.length (fun j st σ' => ∃ c : Bool, st = [.int .i64 ((j : Nat) : Int), .bool c] ∧ Frm σ2 σ' NoB ∧ sameL (s.args.drop j) (t.args.drop j) = sameL s.args t.args) ⟨false, rfl, Frm.refl _ _, rfl⟩ ?_ ?_
    · rintro j st σ4 hj ⟨c, rfl, hF4, hfo⟩
      have ej : wi64 ((j : Int) + 1) = ((j + 1 : Nat) : Int) := by rw [wi64_in (by omega)]; omega
      have hA := hF4.stN hS1
      have hB := hF4.stN hS2
      have hF04 := hF.seq hF4
      simp only [T22b0, asCons_cons, asInt_int, asBool_bool, asNil_nil]
      rw [wp_bif, if_pos (by simp; omega), wp_join, wp_ldF hA rfl, asSlice_slice]
      have hr4 := hrow.stepM hF04 Maps.none (R' := fun cs (u : AT) => cs = u.c ∧ AFull σ4 u) fun _ _ h => ⟨h.1, h.2.frm hF04⟩
      have hr4' := hrow'.stepM hF04 Maps.none (R' := fun cs (u : AT) => cs = u.c ∧ AFull σ4 u) fun _ _ h => ⟨h.1, h.2.frm hF04⟩
      have hj' : j < t.args.length := by omega
      refine wp_rowOf hr4 hj rfl fun cs hX => ?_
      have hmem := hsz _ (List.getElem_mem hj)
      rw [List.drop_eq_getElem_cons hj, List.drop_eq_getElem_cons hj', sameL] at hfo
      generalize s.args[j] = x at hX hfo hmem
      obtain ⟨rfl, hx⟩ := hX
      have hxi := fun (u : AT) (hu : AFull σ4 u) => ih σ4 x u hmem hx hu
      obtain ⟨xp, xc, hxc⟩ := hx.cells
      rw [hxc] at hxi ⊢
      simp only [asAgg_agg, asCons_cons, asInt_int, asStr_str, asSlice_slice, asNil_nil]
      rw [wp_ldF hB rfl, asSlice_slice]
      refine wp_rowOf hr4' hj' rfl fun cs hX => ?_
      generalize t.args[j] = y at hX hfo
      obtain ⟨rfl, hy⟩ := hX
      have hxi := hxi y hy
      obtain ⟨yp, yc, hyc⟩ := hy.cells
      rw [hyc] at hxi ⊢
      simp only [asAgg_agg, asCons_cons, asInt_int, asStr_str, asSlice_slice, asNil_nil]
      rw [wp_call]
      refine WpF.mono hxi ?_
      rintro _ σ5 ⟨rfl, hF5⟩
      rw [asBool_bool, wp_bif]
      cases hxy : sameM x y with
      | false =>
        rw [hxy, Bool.false_and] at hfo
        rw [if_pos (by simp), wp_ret]
        simp only [T22k0, sw_same, asCons_cons, asBool_bool, asNil_nil]
        rw [wp_ret]
        simp only [T22k1, sw_re, sw_same, asCons_cons, asInt_int, asBool_bool, asNil_nil]
        rw [wp_ret]
        exact ⟨_, rfl, by rw [← hfo], hF04.seq hF5⟩
      | true =>
        rw [hxy, Bool.true_and] at hfo
        rw [if_neg (by simp), wp_ret]
        simp only [T22k0, sw_nr, sw_same, asCons_cons, asBool_bool, asNil_nil]
        rw [wp_ret, ej]
        exact ⟨c, rfl, hF4.seq hF5, hfo⟩
    · rintro st σ4 ⟨c, rfl, hF4, hfo⟩
      rw [List.drop_length, sameL] at hfo
      simp only [T22b0, asCons_cons, asInt_int, asBool_bool, asNil_nil]
      rw [wp_bif, if_neg (by simp), wp_ret]
      simp only [T22k1, sw_same, asCons_cons, asInt_int, asBool_bool, asNil_nil]
      rw [wp_ret]
      exact ⟨_, rfl, by rw [← hfo], hF.seq hF4⟩
theorem wp_SameR (hO : OvT ov) : ∀ (k : Nat) (σ : AHeap) (s t : AT), SizeOf.sizeOf s ≤ k → AFull σ s → AFull σ t →
    RetO ov 16 [.agg s.c.toArray, .agg t.c.toArray] σ (.bool (sameM s t)) := by
  intro k
  induction k with
  | zero => intro σ s t h; cases s; simp at h
  | succ k ih =>
    intro σ s t hk hs ht
    have hlen := hs.len
    have hlent := ht.len
    have hsz : ∀ u ∈ s.args, SizeOf.sizeOf u ≤ k := by
      cases s with
      | mk d l =>
        intro u hu
        have := List.sizeOf_lt_of_mem (show u ∈ l from hu)
        simp at hk
        omega
    obtain ⟨p, cap, hc, hrow⟩ := hs.row
    obtain ⟨p', cap', hc', hrow'⟩ := ht.row
    rw [hc, hc', sameM_eq]
    refine WpF.of (T16_eq _ _ _ _ _ _ _ _ _ _ _ _) (hO _ (by decide) (by decide) (by decide)) ?_
    rw [T16]
    refine wp_newQ fun σ1 hF1 hn1 hS1 => ?_
    refine wp_newQ fun σ2 hF2 hn2 hS2 => ?_
    have hS1 := hF2.stN hS1
    have hF := hF1.seq hF2
    clear hF1 hF2
    have bad : ∀ w : Bool, w = false → Wp PROG ov (T16k2 ⟨σ.n, 0, some 0⟩ ⟨σ1.n, 0, some 0⟩ .normal [.bool true]) σ2 fun _ vs σ' => ∃ v, vs = [v] ∧ v = .bool w ∧ Frm σ σ' NoB := fun w hw => by
      simp only [T16k2, sw_same, asCons_cons, asBool_bool, asNil_nil]
      rw [wp_bif, if_pos rfl, wp_ret]
      exact ⟨_, rfl, by rw [hw], hF⟩
    rw [wp_join, wp_ldF hS1 rfl, asInt_int, wp_ldF hS2 rfl, asInt_int, wp_bif]
    by_cases h1 : s.k = t.k
    case neg =>
      rw [if_neg (by simpa using h1), wp_ret]
      exact bad _ (by simp [headEq, h1])
    rw [if_pos (by simpa using h1), wp_ldF hS1 rfl, asStr_str, wp_ldF hS2 rfl, asStr_str, wp_bif]
    by_cases h2 : s.nm.toList = t.nm.toList
    case neg =>
      rw [if_neg (by simpa using h2), wp_ret]
      exact bad _ (by simp [headEq, h2])
    rw [if_pos (by simpa using h2), wp_ldF hS1 rfl, asInt_int, wp_ldF hS2 rfl, asInt_int, wp_bif]
    by_cases h3 : s.v = t.v
    case neg =>
      rw [if_neg (by simpa using h3), wp_ret]
      exact bad _ (by simp [headEq, h3])
    rw [if_pos (by simpa using h3), wp_ldF hS1 rfl, asSlice_slice, wp_ldF hS2 rfl, asSlice_slice, wp_ret]
    by_cases h4 : s.args.length = t.args.length
    case neg =>
      have e : (((s.args.length : Nat) : Int) != ((t.args.length : Nat) : Int)) = true := by simp; omega
      rw [e]
      exact bad _ (by simp [h4])
    have e : (((s.args.length : Nat) : Int) != ((t.args.length : Nat) : Int)) = false := by simp; omega
    rw [e]
    have e0 : (headEq s.a.1 t.a.1 && (s.args.length == t.args.length) && sameL s.args t.args) = sameL s.args t.args := by
      simp only [headEq, h1, h2, h3, h4, beq_self_eq_true, Bool.and_self, Bool.true_and]
    rw [e0]
    simp only [T16k2, sw_same, asCons_cons, asBool_bool, asNil_nil]
    rw [wp_bif, if_neg (by simp)]
    refine Wp.count s.args.length (fun j st σ' => ∃ c : Bool, st = [.int .i64 ((j : Nat) : Int), .bool c] ∧ Frm σ2 σ' NoB ∧ sameL (s.args.drop j) (t.args.drop j) = sameL s.args t.args) ⟨false, rfl, Frm.refl _ _, rfl⟩ ?_ ?_
    · rintro j st σ4 hj ⟨c, rfl, hF4, hfo⟩
      have ej : wi64 ((j : Int) + 1) = ((j + 1 : Nat) : Int) := by rw [wi64_in (by omega)]; omega
      have hA := hF4.stN hS1
      have hB := hF4.stN hS2
      have hF04 := hF.seq hF4
      simp only [T16b0, asCons_cons, asInt_int, asBool_bool, asNil_nil]
      rw [wp_ldF hA rfl, asSlice_slice]
      rw [wp_bif, if_pos (by simp; omega), wp_join, wp_ldF hA rfl, asSlice_slice]
      have hr4 := hrow.stepM hF04 Maps.none (R' := fun cs (u : AT) => cs = u.c ∧ AFull σ4 u) fun _ _ h => ⟨h.1, h.2.frm hF04⟩
      have hr4' := hrow'.stepM hF04 Maps.none (R' := fun cs (u : AT) => cs = u.c ∧ AFull σ4 u) fun _ _ h => ⟨h.1, h.2.frm hF04⟩
      have hj' : j < t.args.length := by omega
      refine wp_rowOf hr4 hj rfl fun cs hX => ?_
      have hmem := hsz _ (List.getElem_mem hj)
      rw [List.drop_eq_getElem_cons hj, List.drop_eq_getElem_cons hj', sameL] at hfo
      generalize s.args[j] = x at hX hfo hmem
      obtain ⟨rfl, hx⟩ := hX
      have hxi := fun (u : AT) (hu : AFull σ4 u) => ih σ4 x u hmem hx hu
      obtain ⟨xp, xc, hxc⟩ := hx.cells
      rw [hxc] at hxi ⊢
      simp only [asAgg_agg, asCons_cons, asInt_int, asStr_str, asSlice_slice, asNil_nil]
      rw [wp_ldF hB rfl, asSlice_slice]
      refine wp_rowOf hr4' hj' rfl fun cs hX => ?_
      generalize t.args[j] = y at hX hfo
      obtain ⟨rfl, hy⟩ := hX
      have hxi := hxi y hy
      obtain ⟨yp, yc, hyc⟩ := hy.cells
      rw [hyc] at hxi ⊢
      simp only [asAgg_agg, asCons_cons, asInt_int, asStr_str, asSlice_slice, asNil_nil]
      rw [wp_call]
      refine WpF.mono hxi ?_
      rintro _ σ5 ⟨rfl, hF5⟩
      rw [asBool_bool, wp_bif]
      cases hxy : sameM x y with
      | false =>
        rw [hxy, Bool.false_and] at hfo
        rw [if_pos (by simp), wp_ret]
        simp only [T16k0, sw_same, asCons_cons, asBool_bool, asNil_nil]
        rw [wp_ret]
        simp only [T16k1, sw_re, sw_same, asCons_cons, asInt_int, asBool_bool, asNil_nil]
        rw [wp_ret]
        exact ⟨_, rfl, by rw [← hfo], hF04.seq hF5⟩
      | true =>
        rw [hxy, Bool.true_and] at hfo
        rw [if_neg (by simp), wp_ret]
        simp only [T16k0, sw_nr, sw_same, asCons_cons, asBool_bool, asNil_nil]
        rw [wp_ret, ej]
        exact ⟨c, rfl, hF4.seq hF5, hfo⟩
    · rintro st σ4 ⟨c, rfl, hF4, hfo⟩
      rw [List.drop_length, sameL] at hfo
      simp only [T16b0, asCons_cons, asInt_int, asBool_bool, asNil_nil]
      rw [wp_ldF (hF4.stN hS1) rfl, asSlice_slice]
      rw [wp_bif, if_neg (by simp), wp_ret]
      simp only [T16k1, sw_same, asCons_cons, asInt_int, asBool_bool, asNil_nil]
      rw [wp_ret]
      exact ⟨_, rfl, by rw [← hfo], hF.seq hF4⟩
end
end Go.Pg
