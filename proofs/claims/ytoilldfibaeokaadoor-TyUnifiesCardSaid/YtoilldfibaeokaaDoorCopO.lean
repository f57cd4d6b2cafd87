/- Layer 5: copied, answered by its contract. -/
import Derived.Test.YtoilldfibaeokaaDoorCopW
import Derived.Test.YtoilldfibaeokaaDoorCopG
namespace Go.Proofs.YtoilldfibaeokaaDoor
open Go.RowKit Go.Pg Go.Maps Go.WideShapes
open Go.WideElems (Fit rg rd rd_mk rg_of rd_key rd_val)

theorem ar_spot {ι : Inj} {B : Nat} {a a' : Addr} (h : AR ι B a a') : a'.spot = none := by
  cases h with
  | old _ hs => exact hs
  | new _ _ => rfl
theorem ptr_inv {ι : Inj} {B : Nat} {a : Addr} {v : Value} (h : VR ι B (.pointer (some a)) v) : ∃ a', v = .pointer (some a') ∧ AR ι B a a' := by
  cases h with
  | ptr h => exact ⟨_, rfl, h⟩
theorem int_inv {ι : Inj} {B : Nat} {k : IntKind} {n : Int} {v : Value} (h : VR ι B (.int k n) v) : v = .int k n := by
  cases h
  rfl
theorem isTy_VR {ι : Inj} {B : Nat} {v v' : Value} (h : isTy v = true) (hv : VR ι B v v') : ∃ k s n p l c, v' = .agg #[.int .i64 k, .string s, .int .i64 n, .slice p l c] := by
  unfold isTy at h
  split at h
  · rename_i cs
    obtain ⟨l⟩ := cs
    split at h
    · rename_i a b c d e f heq
      simp only at heq
      subst heq
      cases hv with
      | agg hx hc =>
        rename_i x'
        obtain ⟨m⟩ := x'
        simp at hx
        match m, hx with
        | [x0, x1, x2, x3], _ =>
          have h0 := hc 0 _ _ rfl rfl
          have h1 := hc 1 _ _ rfl rfl
          have h2 := hc 2 _ _ rfl rfl
          have h3 := hc 3 _ _ rfl rfl
          cases h0
          cases h1
          cases h2
          cases h3 <;> exact ⟨_, _, _, _, _, _, rfl⟩
    · cases h
  · cases h

theorem keyOf3 {n : Int} (h0 : -9223372036854775808 ≤ n) (h1 : n ≤ 9223372036854775807) : keyOf Tryd.prog 3 (.int .i64 n) = some (.int .i64 n) := by
  have hw : (Lit.int .i64 n).wf = true := by simp [Lit.wf, IntKind.min, IntKind.max, IntKind.bits, IntKind.signed]; omega
  exact keyOf_int_mk Tryd.underlying3 hw

theorem perm_lift {α β : Type} {f : α → β} {l1 l2 : List β} (p : l1.Perm l2) : ∀ z : List α, z.map f = l1 → ∃ z' : List α, z'.Perm z ∧ z'.map f = l2 := by
  induction p with
  | nil => intro z hz; exact ⟨z, .refl _, hz⟩
  | cons x _ ih =>
    intro z hz
    cases z with
    | nil => cases hz
    | cons a z =>
      simp only [List.map_cons, List.cons.injEq] at hz
      obtain ⟨z', h1, h2⟩ := ih z hz.2
      exact ⟨a :: z', h1.cons _, by simp [h2, hz.1]⟩
  | swap x y l =>
    intro z hz
    match z, hz with
    | a :: b :: z, hz =>
      simp only [List.map_cons, List.cons.injEq] at hz
      exact ⟨b :: a :: z, .swap _ _ _, by simp [hz.1, hz.2.1, hz.2.2]⟩
  | trans _ _ ih1 ih2 =>
    intro z hz
    obtain ⟨z1, h1, h2⟩ := ih1 z hz
    obtain ⟨z2, h3, h4⟩ := ih2 z1 h2
    exact ⟨z2, h3.trans h1, h4⟩

/-- Each entry, read: its key and its value as they are. -/
theorem rg_ent {e : MapEntry} {n : Int} (hk : e.key = .int .i64 n) (h0 : -9223372036854775808 ≤ n) (h1 : n ≤ 9223372036854775807) (hv : heldR e.val = some (.held e.val, [])) : rd Tryd.prog 3 heldR e = some (.int .i64 n, .held e.val) := by
  unfold rd
  rw [hk, keyOf3 h0 h1, hv]
  rfl

theorem held_self {v : Value} {y : DataW Value × List MemPlace} (h : heldR v = some y) : y = (.held v, []) := by
  obtain ⟨c, rfl⟩ := held_inv h
  rw [held_mkT] at h
  exact (Option.some.inj h).symm

/-- Entries that are read alike are the same, in some order. -/
theorem ents_perm {es1 es2 : Array MapEntry} {c1 c2 : Nat} (F1 : Fit Tryd.prog 3 heldR es1 c1) (F2 : Fit Tryd.prog 3 heldR es2 c2) (h : (es1.toList.map (rg Tryd.prog 3 heldR)).foldr DataW.insert [] = (es2.toList.map (rg Tryd.prog 3 heldR)).foldr DataW.insert []) :
    (es1.toList.map fun e => (e.key, e.val)).Perm (es2.toList.map fun e => (e.key, e.val)) := by
  have hp : (es1.toList.map (rg Tryd.prog 3 heldR)).Perm (es2.toList.map (rg Tryd.prog 3 heldR)) := (sorted_perm _).symm.trans (h ▸ sorted_perm _)
  have back : ∀ {es : Array MapEntry} {c : Nat}, Fit Tryd.prog 3 heldR es c → (es.toList.map (rg Tryd.prog 3 heldR)).map (fun p => ((match p.1 with
      | .int k n => Value.int k n
      | _ => .tuple #[]), (match p.2 with
      | .held v => v
      | _ => .tuple #[]))) = es.toList.map fun e => (e.key, e.val) := fun {es c} F => by
    rw [List.map_map]
    refine List.map_congr_left fun e he => ?_
    obtain ⟨y, hy⟩ := F.reads e he
    have hk := rd_key hy
    obtain ⟨z, hz, hyz⟩ := rd_val hy
    obtain ⟨n, hn, hl, _⟩ := Go.Maps.keyOf_int_inv Tryd.underlying3 hk
    have hs := held_self hz
    simp only [Function.comp, rg_of hy, hl, hyz, hs, hn]
  have := hp.map (fun p => ((match p.1 with
      | .int k n => Value.int k n
      | _ => .tuple #[]), (match p.2 with
      | .held v => v
      | _ => .tuple #[])))
  rw [back F1, back F2] at this
  exact this

/-- copied, as what it computes on the heap. -/
theorem copied_ov {W0 : World} (hn : NoNum Tryd.prog) :
    ∀ args σ v σ', copiedG args σ = some (v, σ') → ∀ (ι : Inj) (W : World) (args' : Array Value), Rel ι W0 σ W → VRL ι W0.heap.size args args'.toList →
    (callFunc 33 args').run Tryd.prog W = .ok (.enter 33 args') W ∧ Calls Tryd.prog 33 args' W fun e w' => ∃ v' κ, e = .returned v' ∧ ι.le κ ∧ VR κ W0.heap.size v v' ∧ Rel κ W0 σ' w' := by
  intro args σ v σ' h ι W args' R hA
  refine ⟨enter_run hn Tryd.func33 (by rfl) args' W, ?_⟩
  unfold copiedG at h
  split at h
  · rename_i a
    split at h
    · rename_i nx r hrd
      split at h
      · rename_i es hes
        obtain ⟨hc, hvv⟩ := bif_some h
        simp only [Bool.and_eq_true, Nat.ble_eq] at hc
        simp only [Prod.mk.injEq] at hvv
        obtain ⟨rfl, rfl⟩ := hvv
        obtain ⟨hty, hlen⟩ := hc
        obtain ⟨hE1, hKA⟩ := tyEnts_inv hty
        obtain ⟨l⟩ := args'
        simp only at hA
        obtain ⟨x, rfl⟩ : ∃ x, l = [x] := by
          have := hA.1
          match l, this with
          | [y], _ => exact ⟨y, rfl⟩
        obtain ⟨a', rfl, ha⟩ := ptr_inv (hA.2 0 _ _ rfl rfl)
        obtain ⟨_, vs', hvl, hsp, hcl⟩ := rdN_sound R ha hrd
        obtain ⟨y0, y1, rfl⟩ : ∃ y0 y1, vs' = [y0, y1] := by
          have := hvl.1
          match vs', this with
          | [y0, y1], _ => exact ⟨y0, y1, rfl⟩
        have hy0 := int_inv (hvl.2 0 _ _ rfl rfl)
        obtain ⟨i, hy1, hi⟩ := (show VR ι W0.heap.size (.map (some r)) y1 from hvl.2 1 _ _ rfl rfl).map_inv
        subst hy0
        subst hy1
        have hc0 := hcl 0 _ rfl
        have hc1 := hcl 1 _ rfl
        obtain ⟨SB, SO, sp⟩ := a'
        simp only at hsp
        subst hsp
        obtain ⟨i', hi', ents, clock, hheap, hEO⟩ := R.map r es _ _ (getMap_inv hes) hi
        rw [hi] at hi'
        cases hi'
        obtain ⟨es', hp1, _, hp3⟩ := hEO.order
        have hsz := hEO.size
        -- the map, read
        have hread : ∀ e ∈ ents.toList, ∃ n : Int, e.key = .int .i64 n ∧ -9223372036854775808 ≤ n ∧ n ≤ 9223372036854775807 ∧ heldR e.val = some (.held e.val, []) := fun e he => by
          obtain ⟨j, hj, rfl⟩ := List.mem_iff_getElem.1 he
          have hj' : j < es'.length := by rw [hp3.1]; exact hj
          obtain ⟨q1, q2⟩ := hp3.2 j es'[j].1 es'[j].2 _ (List.getElem?_eq_getElem hj') (List.getElem?_eq_getElem hj)
          obtain ⟨⟨n, f1, f2, f3⟩, f4⟩ := hE1 _ (hp1.mem_iff.1 (List.getElem_mem hj'))
          obtain ⟨k, s, m, p, l, c, e⟩ := isTy_VR f4 q2
          exact ⟨n, by rw [q1, f1], f2, f3, by rw [e]; rfl⟩
        have hstamp : Go.MapKept.Stamped ents clock := by
          refine ⟨fun e he => hEO.born.1 _ (List.mem_map_of_mem he), hEO.born.2, ?_⟩
          have : ents.toList.map (·.key) = es'.map (·.1) := by
            apply List.ext_getElem
            · simp [hp3.1]
            · intro j h1 h2
              simp only [List.length_map] at h1 h2
              simp only [List.getElem_map]
              exact (hp3.2 j es'[j].1 es'[j].2 _ (List.getElem?_eq_getElem h2) (List.getElem?_eq_getElem h1)).1
          rw [this]
          obtain ⟨kd, _, hnd⟩ := hKA
          exact (hp1.map _).nodup_iff.2 hnd
        have hF : Fit Tryd.prog 3 heldR ents clock := ⟨by unfold maxLen; omega, hstamp, fun e he => by
          obtain ⟨n, g1, g2, g3, g4⟩ := hread e he
          exact ⟨_, rg_ent g1 g2 g3 g4⟩⟩
        have hown : W.ownsMap Tryd.prog 3 heldR i.c ents.size (.map ((ents.toList.map (rg Tryd.prog 3 heldR)).foldr DataW.insert [])) := ⟨ents, clock, hheap, hF, Nat.le_refl _, rfl⟩
        have hmax : Go.Maps.size (DataW.map ((ents.toList.map (rg Tryd.prog 3 heldR)).foldr DataW.insert [])) ≤ maxLen := by
          rw [Go.Maps.size_eq, (sorted_perm _).length_eq, List.length_map]
          simp only [Array.length_toList]
          unfold maxLen
          omega
        refine (copied_any SB SO i.c ents.size nx _ W (by simpa [Addr.add] using hc0) (by simpa [Addr.add] using hc1) hown hmax).mono ?_
        rintro e w' ⟨g, he, hgl, hg, ⟨ents2, clock2, hb2, hF2, _, hD2⟩, hbel⟩
        have hW0 := R.below.size
        have Rm := R.more hbel
        simp only [DataW.map.injEq] at hD2
        have hperm := ents_perm hF2 hF hD2.symm
        -- the entries of the copy
        have hz : ((es'.zip ents.toList).map fun p => (p.2.key, p.2.val)) = ents.toList.map fun e => (e.key, e.val) := by
          have : ((es'.zip ents.toList).map Prod.snd) = ents.toList := List.map_snd_zip (by rw [hp3.1]; exact Nat.le_refl _)
          rw [← this, List.map_map]
          simp [Function.comp, this]
        obtain ⟨z', hz1, hz2⟩ := perm_lift hperm.symm _ hz
        have hmr : MR ι W0.heap.size (z'.map Prod.fst) ents2.toList := by
          have hl := congrArg List.length hz2
          simp only [List.length_map] at hl
          refine ⟨by simp [hl], fun j k u e a b => ?_⟩
          have hj : j < z'.length := by
            have := (List.getElem?_eq_some_iff.1 a).1
            simpa using this
          have hj2 : j < ents2.toList.length := (List.getElem?_eq_some_iff.1 b).1
          have hzj := congrArg (fun l => l[j]?) hz2
          simp only [List.getElem?_map, List.getElem?_eq_getElem hj, List.getElem?_eq_getElem hj2, Option.map_some, Option.some.injEq, Prod.mk.injEq] at hzj
          rw [List.getElem?_eq_getElem hj2] at b
          cases b
          simp only [List.getElem?_map, List.getElem?_eq_getElem hj, Option.map_some, Option.some.injEq] at a
          have hm : z'[j] ∈ es'.zip ents.toList := hz1.mem_iff.1 (List.getElem_mem hj)
          obtain ⟨q, hq, eq⟩ := List.mem_iff_getElem.1 hm
          simp only [List.length_zip] at hq
          rw [List.getElem_zip] at eq
          obtain ⟨g1, g2⟩ := hp3.2 q es'[q].1 es'[q].2 (ents.toList[q]'(by omega)) (List.getElem?_eq_getElem (by omega)) (List.getElem?_eq_getElem (by omega))
          rw [← eq] at a hzj
          simp only at a hzj
          rw [a] at g1 g2
          simp only at g1 g2
          rw [← hzj.1, ← hzj.2]
          exact ⟨g1, g2⟩
        have hE2 : EntsOK ι W0.heap.size es ents2 clock2 := by
          refine ⟨⟨fun b hb => ?_, hF2.stamped.2.1⟩, z'.map Prod.fst, ?_, .inr hKA, hmr⟩
          · obtain ⟨e, he, rfl⟩ := List.mem_map.1 hb
            exact hF2.stamped.1 e he
          · refine (hz1.map _).trans ?_
            rw [List.map_fst_zip (by rw [hp3.1]; exact Nat.le_refl _)]
            exact hp1
        have hun : ∀ c, W.heap.size ≤ c → (∀ j v i', ι j v = some i' → i'.c ≠ c) ∧ ∀ o, ¬ ι.keep c o := fun c hc => ⟨fun j v i' h e => by have := (R.dom _ _ _ h).2.2; omega, fun o ho => by have := R.kept_lt ho; omega⟩
        obtain ⟨k1, k2, k3⟩ := Rm.linkMap hb2 hE2 (by omega) (hun _ (Nat.le_refl _)).1 (hun _ (Nat.le_refl _)).2
        obtain ⟨κ, m1, _, m3, m4⟩ := k2.linkSt (cells := [.int .i64 nx, .map (some σ.n)]) (el := 63) hg (.cons (.int _ _) (.cons k3 .nil)) rfl (by omega) (fun j v i' h e => by
          rcases link_cases h with ⟨_, _, rfl⟩ | h
          · simp only at e
            omega
          · exact (hun g (by omega)).1 j v i' h e) (fun o ho => (hun g (by omega)).2 o ho)
        exact ⟨_, κ, he, Inj.le_trans k1 m1, m4, m3⟩
      · cases h
    · cases h
  · cases h
end Go.Proofs.YtoilldfibaeokaaDoor
