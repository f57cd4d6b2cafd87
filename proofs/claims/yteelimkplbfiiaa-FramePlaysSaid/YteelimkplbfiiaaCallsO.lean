/- Layer 17: Calls, answered by its contract. -/
import Derived.Test.YteelimkplbfiiaaCallsW
import Derived.Test.YteelimkplbfiiaaCallsG
namespace Go.Proofs.Yteelimkplbfiiaa
open Go.RowKit Go.Pg

theorem ar_spot {ι : Inj} {B : Nat} {a a' : Addr} (h : AR ι B a a') : a'.spot = none := by
  cases h with
  | old _ hs => exact hs
  | new _ _ => rfl
theorem ptr_inv {ι : Inj} {B : Nat} {a : Addr} {v : Value} (h : VR ι B (.pointer (some a)) v) : ∃ a', v = .pointer (some a') ∧ AR ι B a a' := by
  cases h with
  | ptr h => exact ⟨_, rfl, h⟩
theorem int_inv {ι : Inj} {B : Nat} {k : IntKind} {n : Int} {v : Value} (h : VR ι B (.int k n) v) : v = .int k n := by
  cases h
  rfl
/-- One cell, read. -/
theorem rd1_sound {ι : Inj} {W0 W : World} {σ : AHeap} {a a' : Addr} {v : Value} (R : Rel ι W0 σ W) (ha : AR ι W0.heap.size a a') (n : Nat) (h : σ.rdN (aadd a n) 1 = some [v]) : ∃ v', VR ι W0.heap.size v v' ∧ W.cell? ⟨a'.block, a'.off + n, none⟩ = some v' := by
  obtain ⟨_, vs', hvl, hsp, hcl⟩ := rdN_sound R (ha.add n) h
  obtain ⟨y, rfl⟩ : ∃ y, vs' = [y] := by
    have := hvl.1
    match vs', this with
    | [y], _ => exact ⟨y, rfl⟩
  have hy1 := hcl 0 y rfl
  rw [add_at (ar_spot ha)] at hy1
  exact ⟨y, hvl.2 0 _ _ rfl rfl, hy1⟩

theorem callsL_sound {ι : Inj} {W0 W : World} {σ : AHeap} (R : Rel ι W0 σ W) : ∀ {vs vs' : List Value} {zs : List Int}, VRL ι W0.heap.size vs vs' → callsL σ vs = some zs →
    zs.length = vs.length ∧ ∀ j (hj : j < zs.length), ∃ ab ao, vs'[j]? = some (.pointer (some ⟨ab, ao, none⟩)) ∧ W.cell? ⟨ab, ao + 1, none⟩ = some (.int .i64 zs[j])
  | [], vs', zs, hv, h => by
    simp only [callsL, Option.some.injEq] at h
    subst h
    exact ⟨rfl, fun j hj => by simp at hj⟩
  | v :: r, vs', zs, hv, h => by
    obtain ⟨v', r', rfl, hv1, hr⟩ := hv.cons_inv
    unfold callsL at h
    split at h
    · rename_i heq
      cases heq
    · rename_i a r0 heq
      simp only [List.cons.injEq] at heq
      obtain ⟨rfl, rfl⟩ := heq
      split at h
      · rename_i z hz
        split at h
        · rename_i zs' hzs
          cases h
          obtain ⟨e1, e2⟩ := callsL_sound R hr hzs
          obtain ⟨a', rfl, ha⟩ := ptr_inv hv1
          obtain ⟨y, hy, hc⟩ := rd1_sound R ha 1 hz
          obtain rfl := int_inv hy
          refine ⟨by simp [e1], fun j hj => ?_⟩
          cases j with
          | zero =>
            have hs := ar_spot ha
            obtain ⟨b1, b2, b3⟩ := a'
            simp only at hs
            subst hs
            exact ⟨b1, b2, rfl, hc⟩
          | succ j =>
            obtain ⟨ab, ao, q1, q2⟩ := e2 j (by simpa using hj)
            exact ⟨ab, ao, by simpa using q1, by simpa using q2⟩
        · cases h
      · cases h
    · cases h

def CKey (W : World) (y : Value) (n : Nat) (zs : List Int) : Prop := ∃ (q : Option Addr) (c' : Nat) (Ab Ao : Nat → Nat) (C : Nat → Int), y = .slice q n c' ∧ zs.length = n ∧ (n = 0 ∨ ∃ b off, q = some ⟨b, off, none⟩ ∧ ∀ j, j < n → W.cell? ⟨b, off + j, none⟩ = some (.pointer (some ⟨Ab j, Ao j, none⟩))) ∧
          (∀ j, j < n → W.cell? ⟨Ab j, Ao j + 1, none⟩ = some (.int .i64 (C j))) ∧ ∀ j (h : j < zs.length), C j = zs[j]

theorem down_map (n : Nat) (C : Nat → Int) (zs : List Int) (hl : zs.length = n) (hC : ∀ j (h : j < zs.length), C j = zs[j]) : (down n).map (fun x => Value.int .i64 (C x.1)) = zs.reverse.map (Value.int .i64) := by
  subst hl
  unfold down
  rw [List.map_reverse, List.map_reverse]
  congr 1
  apply List.ext_getElem
  · simp
  · intro i h1 h2
    simp at h1 h2
    simp [hC i h2]

/-- Calls, as what it computes on the heap. -/
theorem calls_ov {W0 : World} (hn : NoNum Try.prog) :
    ∀ args σ v σ', callsG args σ = some (v, σ') → ∀ (ι : Inj) (W : World) (args' : Array Value), Rel ι W0 σ W → VRL ι W0.heap.size args args'.toList →
    (callFunc 25 args').run Try.prog W = .ok (.enter 25 args') W ∧ Calls Try.prog 25 args' W fun e w' => ∃ v' κ, e = .returned v' ∧ ι.le κ ∧ VR κ W0.heap.size v v' ∧ Rel κ W0 σ' w' := by
  intro args σ v σ' h ι W args' R hA
  refine ⟨enter_run hn Try.func25 (by rfl) args' W, ?_⟩
  unfold callsG at h
  split at h
  · rename_i a
    split at h
    · rename_i p n c hrd
      obtain ⟨l⟩ := args'
      simp only at hA
      obtain ⟨x, rfl⟩ : ∃ x, l = [x] := by
        have := hA.1
        match l, this with
        | [y], _ => exact ⟨y, rfl⟩
      obtain ⟨a', rfl, ha⟩ := ptr_inv (hA.2 0 _ _ rfl rfl)
      obtain ⟨y, hy, hcell⟩ := rd1_sound R ha 2 hrd
      have hs0 := ar_spot ha
      obtain ⟨SB, SO, sp⟩ := a'
      simp only at hs0 hcell
      subst hs0
      -- the numbers
      have key : ∀ zs, callsR σ p n = some zs → CKey W y n zs := by
        intro zs hz
        unfold callsR at hz
        by_cases h0 : n = 0
        · subst h0
          rw [show Nat.beq 0 0 = true from rfl] at hz
          simp only [cond_true, Option.some.injEq] at hz
          subst hz
          cases hy <;> exact ⟨_, _, fun _ => 0, fun _ => 0, fun _ => 0, rfl, rfl, .inl rfl, fun j hj => by omega, fun j hj => by simp at hj⟩
        · have hb0 : Nat.beq n 0 = false := by
            cases hb : Nat.beq n 0 with
            | false => rfl
            | true => exact absurd (Nat.eq_of_beq_eq_true hb) h0
          rw [hb0] at hz
          simp only [cond_false] at hz
          split at hz
          · rename_i b
            split at hz
            · rename_i vs hvs
              have mk : ∀ (b' : Addr) (c' : Nat), y = .slice (some b') n c' → AR ι W0.heap.size b b' → CKey W y n zs := fun b' c' e har => by
                obtain ⟨hl1, vs', hvl, hsp, hcl⟩ := rdN_sound R har hvs
                obtain ⟨e1, e2⟩ := callsL_sound R hvl hz
                have hex : ∀ j, ∃ ab ao, ∀ (h : j < zs.length), vs'[j]? = some (.pointer (some ⟨ab, ao, none⟩)) ∧ W.cell? ⟨ab, ao + 1, none⟩ = some (.int .i64 zs[j]) := fun j => by
                  by_cases hj : j < zs.length
                  · obtain ⟨ab, ao, q1, q2⟩ := e2 j hj
                    exact ⟨ab, ao, fun _ => ⟨q1, q2⟩⟩
                  · exact ⟨0, 0, fun h => absurd h hj⟩
                have hAb : ∀ j, ∃ x : Nat × Nat, ∀ (h : j < zs.length), vs'[j]? = some (.pointer (some ⟨x.1, x.2, none⟩)) ∧ W.cell? ⟨x.1, x.2 + 1, none⟩ = some (.int .i64 zs[j]) := fun j => by
                  obtain ⟨ab, ao, h⟩ := hex j
                  exact ⟨(ab, ao), h⟩
                obtain ⟨f, hf⟩ := Classical.axiomOfChoice hAb
                have hln : zs.length = n := by omega
                obtain ⟨bb, bo, bs⟩ := b'
                simp only at hsp
                subst hsp
                exact ⟨some ⟨bb, bo, none⟩, c', fun j => (f j).1, fun j => (f j).2, fun j => zs.getD j 0, e, hln, .inr ⟨bb, bo, rfl, fun j hj => hcl j _ (hf j (by omega)).1⟩, fun j hj => by
                  have := (hf j (by omega)).2
                  rw [this]
                  simp [List.getD, show j < zs.length by omega], fun j h => by simp [List.getD, h]⟩
              cases hy with
              | sliceZero _ _ => exact absurd rfl h0
              | sliceOld =>
                rename_i h2 h3
                exact mk _ _ rfl (AR.old h2 h3)
              | sliceNew h1 h2 h3 h4 => exact mk _ _ rfl (AR.new h1 h2)
            · cases hz
          · cases hz
      split at h
      · rename_i hz
        simp only [Option.some.injEq, Prod.mk.injEq] at h
        obtain ⟨rfl, rfl⟩ := h
        obtain ⟨q, c', Ab, Ao, C, rfl, hlen, hq, hC, _⟩ := key _ hz
        simp only [List.length_nil] at hlen
        refine (calls_calls SB SO n c' q Ab Ao C (by omega) W hcell hq hC).mono ?_
        rintro e W' ⟨v', he, hown, hnil, hb⟩
        rw [hnil.2 hlen.symm] at he
        exact ⟨_, ι, he, Inj.le_refl _, .sliceNil _ _, R.more hb⟩
      · rename_i z zs hz
        obtain ⟨hc, hvv⟩ := bif_some h
        simp only [Nat.ble_eq] at hc
        simp only [Prod.mk.injEq] at hvv
        obtain ⟨rfl, rfl⟩ := hvv
        obtain ⟨q, c', Ab, Ao, C, rfl, hlen, hq, hC, hCz⟩ := key _ hz
        refine (calls_calls SB SO n c' q Ab Ao C hc W hcell hq hC).mono ?_
        rintro e W' ⟨v', he, hown, _, hb⟩
        rw [down_map n C (z :: zs) hlen hCz] at hown
        have hpos : 0 < n := by rw [← hlen]; simp
        rcases hown.2 with ⟨_, h0⟩ | ⟨g, cap, cur, hv, hg, hgb, hnc, hcm, hsz, htk⟩
        · omega
        · have hcells : ints .i64 (revI (z :: zs) []) = (z :: zs).reverse.map (Value.int .i64) := by rw [revI_eq, List.append_nil]
          have hclen : ((z :: zs).reverse.map (Value.int .i64)).length = n := by rw [List.length_map, List.length_reverse, hlen]
          have htk' : cur.toList.take n = (z :: zs).reverse.map (Value.int .i64) := by rw [← htk, Nat.mul_one]
          generalize hL : (z :: zs).reverse.map (Value.int .i64) = L at hcells hclen htk'
          have hall : ∀ x ∈ L, ∃ w, x = Value.int .i64 w := by
            intro x hx
            rw [← hL] at hx
            obtain ⟨w, _, rfl⟩ := List.mem_map.1 hx
            exact ⟨w, rfl⟩
          obtain ⟨κ, k1, k2, k3⟩ := R.adopt (len := n) hb hg hgb (cells := L) (cap' := cap) (by
            rw [List.all_eq_true]
            intro x hx
            obtain ⟨w, rfl⟩ := hall x hx
            rfl) (by
            rw [hclen, htk']
            exact ⟨rfl, fun j a b e1 e2 => by
              rw [e1] at e2
              cases e2
              obtain ⟨w, rfl⟩ := hall _ (List.mem_of_getElem? e1)
              exact .int _ _⟩) (by omega) (by omega)
          rw [hcells]
          refine ⟨v', κ, he, k1, ?_, k2⟩
          rw [hv]
          rw [hclen] at k3
          exact k3
      · cases h
    · cases h
  · cases h
end Go.Proofs.Yteelimkplbfiiaa
