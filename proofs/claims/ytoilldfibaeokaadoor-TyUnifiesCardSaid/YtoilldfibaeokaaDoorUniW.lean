/- Layer 5: Unify, walked: what its calls leave is told by words of the caller's (J0, J1, J2, J3). -/
import Derived.Test.YtoilldfibaeokaaDoorUniG
import Derived.Test.YtoilldfibaeokaaDoorUniR
namespace Go.Proofs.YtoilldfibaeokaaDoor
open Go.RowKit Go.Pg Go.Maps Go.WideShapes
open Go.WideElems (Fit rg rd rd_mk rg_of rd_key rd_val)

abbrev tyV (c : Int × ByteArray × Int × Option Addr × Nat × Nat) : Value := .agg #[.int .i64 c.1, .string c.2.1, .int .i64 c.2.2.1, .slice c.2.2.2.1 c.2.2.2.2.1 c.2.2.2.2.2]
abbrev tyO (c : Int × ByteArray × Int × Option Addr × Nat × Nat) : Obj := .cells #[.int .i64 c.1, .string c.2.1, .int .i64 c.2.2.1, .slice c.2.2.2.1 c.2.2.2.2.1 c.2.2.2.2.2] 24

def Loc (w : World) (A : Nat) (c : Int × ByteArray × Int × Option Addr × Nat × Nat) : Prop :=
  w.cell? ⟨A, 0, none⟩ = some (.int .i64 c.1) ∧ w.cell? ⟨A, 1, none⟩ = some (.string c.2.1) ∧ w.cell? ⟨A, 2, none⟩ = some (.int .i64 c.2.2.1) ∧ w.cell? ⟨A, 3, none⟩ = some (.slice c.2.2.2.1 c.2.2.2.2.1 c.2.2.2.2.2)
theorem Loc.of {w : World} {A : Nat} {c : Int × ByteArray × Int × Option Addr × Nat × Nat} (h : w.heap[A]? = some (tyO c)) : Loc w A c := by
  refine ⟨?_, ?_, ?_, ?_⟩ <;> simp [World.cell?, h]

theorem ranges_same {w w' : World} {b r n : Nat} {D : DataW Value} {left : Lit → Bool} {cnt : Nat} (h : w.ranges Tryd.prog 3 heldR b r n D left cnt) (h1 : w'.heap[b]? = w.heap[b]?) (h2 : w'.heap[r]? = w.heap[r]?) : w'.ranges Tryd.prog 3 heldR b r n D left cnt := by
  obtain ⟨es, clock, since, seen, c0, hb, F, hs, hD, hr, rest⟩ := h
  exact ⟨es, clock, since, seen, c0, h1.trans hb, F, hs, hD, h2.trans hr, rest⟩

set_option maxRecDepth 100000 in
theorem unify_any (SB SO : Nat) (a1 : Int) (a2 : ByteArray) (a3 : Int) (a4 : Option Addr) (a5 a6 : Nat) (b1 : Int) (b2 : ByteArray) (b3 : Int) (b4 : Option Addr) (b5 b6 : Nat) (w : World) (Q : Ending → World → Prop)
    (ga gb : Bool) (er : Int) (J0 : World → Prop) (J1 J2 : Nat → World → Prop)
    (h0 : J0 ((w.alloc (tyO (a1, a2, a3, a4, a5, a6))).alloc (tyO (b1, b2, b3, b4, b5, b6))))
    (hA : ∀ w, J0 w → Calls Tryd.prog 15 #[tyV (a1, a2, a3, a4, a5, a6)] w fun e w' => e = .returned (.bool ga) ∧ J0 w')
    (hB : ∀ w, J0 w → Calls Tryd.prog 15 #[tyV (b1, b2, b3, b4, b5, b6)] w fun e w' => e = .returned (.bool gb) ∧ J0 w')
    (c0 : ∀ w', J0 w' → Loc w' w.heap.size (a1, a2, a3, a4, a5, a6) ∧ Loc w' (w.heap.size + 1) (b1, b2, b3, b4, b5, b6))
    (hE : (ga && gb) = false → ∀ w, J0 w → Q (.returned (.int .i64 1)) w)
    (hC : ga = true → gb = true → ∀ w, J0 w → Calls Tryd.prog 33 #[.pointer (some ⟨SB, SO, none⟩)] w fun e w' => ∃ g, e = .returned (.pointer (some ⟨g, 0, none⟩)) ∧ J1 g w')
    (c1 : ∀ g w', J1 g w' → Loc w' w.heap.size (a1, a2, a3, a4, a5, a6) ∧ Loc w' (w.heap.size + 1) (b1, b2, b3, b4, b5, b6))
    (hO : ∀ g w, J1 g w → Calls Tryd.prog 34 #[.pointer (some ⟨g, 0, none⟩), tyV (a1, a2, a3, a4, a5, a6), tyV (b1, b2, b3, b4, b5, b6)] w fun e w' => e = .returned (.int .i64 er) ∧ J2 g w')
    (hE2 : er ≠ 0 → ∀ g w, J2 g w → Q (.returned (.int .i64 er)) w)
    (dom small : Int → Bool)
    (c2 : er = 0 → ∀ g w, J2 g w → ∃ M n D0, w.cell? ⟨g, 1, none⟩ = some (.map (some M)) ∧ w.ownsMap Tryd.prog 3 heldR M n D0 ∧ Go.Maps.size D0 ≤ maxLen ∧ ∀ m : Int, Go.Maps.has D0 (.int .i64 m) = true ↔ dom m = true)
    (J3 : Nat → Nat → Nat → World → Prop)
    (hR : er = 0 → ∀ g M w w0, J2 g w → w.cell? ⟨g, 1, none⟩ = some (.map (some M)) → w.grownBy w0 none → w0.heap.size = w.heap.size + 1 → J3 g M w.heap.size w0)
    (hN : ∀ g M I w w1, J3 g M I w → w.grownBy w1 (some I) → w1.heap.size = w.heap.size → J3 g M I w1)
    (hS : ∀ g M I w m, J3 g M I w → dom m = true → Calls Tryd.prog 35 #[.pointer (some ⟨g, 0, none⟩), tyV (7, ⟨#[]⟩, m, none, 0, 0)] w fun e w' => e = .returned (.bool (small m)) ∧ J3 g M I w' ∧ w'.heap[M]? = w.heap[M]? ∧ w'.heap[I]? = w.heap[I]?)
    (hE3 : ∀ g M I w m, J3 g M I w → dom m = true → small m = false → Q (.returned (.int .i64 2)) w)
    (hF : ∀ g M I w, J3 g M I w → (∀ m, dom m = true → small m = true) → ∃ y, w.cell? ⟨SB, SO + 1, none⟩ = some y ∧ w.frozen? ⟨SB, SO + 1, none⟩ = false ∧ w.cell? ⟨g, 1, none⟩ = some (.map (some M)) ∧ Q (.returned (.int .i64 0)) (w.setCell ⟨SB, SO + 1, none⟩ (.map (some M)))) :
    Calls Tryd.prog 12 #[.pointer (some ⟨SB, SO, none⟩), tyV (a1, a2, a3, a4, a5, a6), tyV (b1, b2, b3, b4, b5, b6)] w Q := by
  have H0 : Hid (J0 ((w.alloc (tyO (a1, a2, a3, a4, a5, a6))).alloc (tyO (b1, b2, b3, b4, b5, b6)))) := h0
  clear h0
  go_enter Tryd.func12, Tryd.ntmps12
  go_wp2_with fail
  refine (hA _ H0.out).mono ?_
  rintro e w1 ⟨rfl, h1⟩
  obtain ⟨⟨k0, k1, k2, k3⟩, ⟨l0, l1, l2, l3⟩⟩ := c0 w1 h1
  simp only at k0 k1 k2 k3 l0 l1 l2 l3
  have H1 : Hid (J0 w1) := h1
  clear h1
  cases ga with
  | false =>
    go_wp2_with fail
    exact hE (by simp) _ H1.out
  | true =>
    go_wp2_with fail
    refine (hB _ H1.out).mono ?_
    rintro e w2 ⟨rfl, h2⟩
    clear k0 k1 k2 k3 l0 l1 l2 l3
    obtain ⟨⟨k0, k1, k2, k3⟩, ⟨l0, l1, l2, l3⟩⟩ := c0 w2 h2
    simp only at k0 k1 k2 k3 l0 l1 l2 l3
    have H2 : Hid (J0 w2) := h2
    clear h2
    cases gb with
    | false =>
      go_wp2_with fail
      exact hE (by simp) _ H2.out
    | true =>
      go_wp2_with fail
      refine (hC (by simp) (by simp) _ H2.out).mono ?_
      rintro e w3 ⟨g, rfl, h3⟩
      clear k0 k1 k2 k3 l0 l1 l2 l3
      obtain ⟨⟨k0, k1, k2, k3⟩, ⟨l0, l1, l2, l3⟩⟩ := c1 g w3 h3
      simp only at k0 k1 k2 k3 l0 l1 l2 l3
      have H3 : Hid (J1 g w3) := h3
      clear h3
      go_wp2_with fail
      refine (hO g _ H3.out).mono ?_
      rintro e w4 ⟨rfl, h4⟩
      clear k0 k1 k2 k3 l0 l1 l2 l3
      have H4 : Hid (J2 g w4) := h4
      clear h4
      by_cases her : er = 0
      case neg =>
        go_wp2_with fail
        exact hE2 her g _ H4.out
      case pos =>
        subst her
        obtain ⟨M, n, D0, hM, hown, hmax, hdom⟩ := c2 rfl g w4 H4.out
        go_wp2_with (first
          | (at_range; refine wpList_range_own _ rfl _ 61 rfl 3 24 law3 Tryd.underlying61 heldR M n _ rfl hown ?_; intro w0 hrg0 hg0 hs0)
          | go_in)
        have H5 : Hid (J3 g M w4.heap.size w0) := hR (by simp) g M w4 w0 H4.out hM hg0 hs0
        clear hM hown hmax hg0 hs0
        have HD : Hid (∀ m : Int, Go.Maps.has D0 (.int .i64 m) = true ↔ dom m = true) := hdom
        clear hdom
        go_frame
        go_loopw [9] (fun _ wr => ∃ (left : Lit → Bool) (cnt : Nat), wr.ranges Tryd.prog 3 heldR M w4.heap.size n D0 left cnt ∧ Hid (J3 g M w4.heap.size wr) ∧ Hid (∀ kl, left kl = true → Go.Maps.has D0 kl = true) ∧ Hid (∀ m : Int, dom m = true → left (.int .i64 m) = true ∨ small m = true)) (fun _ wr => wr.rangeLeft M w4.heap.size)
        case atStart =>
          exact ⟨_, _, hrg0, H5, fun kl h => h, fun m h => .inl ((HD.out m).2 h)⟩
        case round =>
          obtain ⟨left, cnt, hrg, HJ, HL, HM⟩ := hrel
          go_wp2_with (first
            | (at_next; refine wpList_next_ranges _ rfl _ rfl 3 law3 heldR (Value.int .i64) mkT (fun key kl h => by obtain ⟨x, e, _⟩ := Maps.keyOf_int_inv Tryd.underlying3 h; exact ⟨x, e⟩) (fun v y h => held_inv h) M w4.heap.size n _ _ _ rfl hrg ?_ ?_)
            | go_in)
          · intro hcz hl0
            have HX : Hid (∀ m, dom m = true → small m = true) := fun m h => (HM.out m h).resolve_left (by rw [hl0]; simp)
            obtain ⟨y, f1, f2, f3, f4⟩ := hF g M _ _ HJ.out HX.out
            have F4 : Hid (Q (.returned (.int .i64 0)) (wr.setCell ⟨SB, SO + 1, none⟩ (.map (some M)))) := f4
            clear f4
            go_wp2_with fail
            exact F4.out
          · intro x c1 c2 c3 d1 d2 d3 kl yd yp w1 cnt1 hkx hlx hRc hat hrg1 hlt hg1 hs1 hen
            obtain ⟨x', hx', hkl, _⟩ := Go.Maps.keyOf_int_inv Tryd.underlying3 hkx
            cases hx'
            subst hkl
            have hdx : dom x = true := (HD.out x).1 (HL.out _ hlx)
            have H6 : Hid (J3 g M w4.heap.size w1) := hN g M _ _ _ HJ.out hg1 hs1
            clear hRc hat hg1 hs1
            go_wp2_with fail
            refine (hS g M _ _ x H6.out hdx).mono ?_
            rintro e w5 ⟨rfl, h7, hm1, hm2⟩
            have hrg2 := ranges_same hrg1 hm1 hm2
            have H7 : Hid (J3 g M w4.heap.size w5) := h7
            clear h7 hm1 hm2
            cases hsx : small x with
            | false =>
              go_wp2_with fail
              exact hE3 g M _ _ x H7.out hdx hsx
            | true =>
              go_wp2_with fail
              refine ⟨⟨_, cnt1, hrg2, H7, fun kl h => HL.out kl (by simp only [Bool.and_eq_true] at h; exact h.1), fun m hm => ?_⟩, ?_⟩
              · by_cases hmx : m = x
                · exact .inr (by rw [hmx]; exact hsx)
                · rcases HM.out m hm with h | h
                  · refine .inl ?_
                    simp only [h, Bool.true_and]
                    cases hsk : (Lit.int .i64 m).sameKey (.int .i64 x) with
                    | false => rfl
                    | true =>
                      have := WideAt.sameKey_eq hsk
                      cases this
                      exact absurd rfl hmx
                  · exact .inr h
              · rw [hrg2.left_eq, hrg.left_eq]
                exact hlt
end Go.Proofs.YtoilldfibaeokaaDoor
