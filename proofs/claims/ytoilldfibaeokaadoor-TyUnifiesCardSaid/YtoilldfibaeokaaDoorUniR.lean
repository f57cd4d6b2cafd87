/- Layer 5: a map of the small semantics as the world's own, read by the library's words. -/
import Derived.Test.YtoilldfibaeokaaDoorCopO
namespace Go.Proofs.YtoilldfibaeokaaDoor
open Go.RowKit Go.Pg Go.Maps Go.WideShapes
open Go.WideElems (Fit rg rd rd_mk rg_of rd_key rd_val)

theorem map_read {W0 W : World} {ι : Inj} {σ : AHeap} {r : Nat} {es : List (Value × Value)} {i : Info} (R : Rel ι W0 σ W) (hes : σ.getMap r = some es) (hty : tyEnts es = true) (hlen : es.length ≤ 100000) (hi : ι r 0 = some i) :
    ∃ n D0, W.ownsMap Tryd.prog 3 heldR i.c n D0 ∧ Go.Maps.size D0 ≤ maxLen ∧ (∃ ents clock, W.heap[i.c]? = some (.map ents clock)) ∧ ∀ m : Int, Go.Maps.has D0 (.int .i64 m) = true ↔ ∃ p ∈ es, p.1 = .int .i64 m := by
  obtain ⟨hE1, hKA⟩ := tyEnts_inv hty
  obtain ⟨i', hi', ents, clock, hheap, hEO⟩ := R.map r es _ _ (getMap_inv hes) hi
  rw [hi] at hi'
  cases hi'
  obtain ⟨es', hp1, _, hp3⟩ := hEO.order
  have hsz := hEO.size
  have hread : ∀ e ∈ ents.toList, ∃ n : Int, e.key = .int .i64 n ∧ -9223372036854775808 ≤ n ∧ n ≤ 9223372036854775807 ∧ heldR e.val = some (.held e.val, []) ∧ ∃ p ∈ es, p.1 = .int .i64 n := fun e he => by
    obtain ⟨j, hj, rfl⟩ := List.mem_iff_getElem.1 he
    have hj' : j < es'.length := by rw [hp3.1]; exact hj
    obtain ⟨q1, q2⟩ := hp3.2 j es'[j].1 es'[j].2 _ (List.getElem?_eq_getElem hj') (List.getElem?_eq_getElem hj)
    have hm := hp1.mem_iff.1 (List.getElem_mem hj')
    obtain ⟨⟨n, f1, f2, f3⟩, f4⟩ := hE1 _ hm
    obtain ⟨k, s, m, p, l, c, e⟩ := isTy_VR f4 q2
    exact ⟨n, by rw [q1, f1], f2, f3, by rw [e]; rfl, _, hm, f1⟩
  have hstamp : Go.MapKept.Stamped ents clock := by
    refine ⟨fun e he => hEO.born.1 _ (List.mem_map_of_mem he), hEO.born.2, ?_⟩
    have : ents.toList.map (·.key) = es'.map (·.1) := by
      apply List.ext_getElem
      · simp [hp3.1]
      · intro j h1 h2
        simp only [List.length_map] at h1 h2
        simp only [List.getElem_map]
        exact (hp3.2 j es'[j].1 es'[j].2 _ (List.getElem?_eq_getElem h2) (List.getElem?_eq_getElem h1)).1
    rw [this]
    obtain ⟨kd, _, hnd⟩ := hKA
    exact (hp1.map _).nodup_iff.2 hnd
  have hF : Fit Tryd.prog 3 heldR ents clock := ⟨by unfold maxLen; omega, hstamp, fun e he => by
    obtain ⟨n, g1, g2, g3, g4, _⟩ := hread e he
    exact ⟨_, rg_ent g1 g2 g3 g4⟩⟩
  refine ⟨ents.size, _, ⟨ents, clock, hheap, hF, Nat.le_refl _, rfl⟩, ?_, ⟨ents, clock, hheap⟩, fun m => ⟨fun h => ?_, fun h => ?_⟩⟩
  · rw [Go.Maps.size_eq, (sorted_perm _).length_eq, List.length_map]
    simp only [Array.length_toList]
    unfold maxLen
    omega
  · obtain ⟨p, hp, hpk⟩ := List.any_eq_true.1 h
    obtain ⟨e, he, rfl⟩ := List.mem_map.1 (mem_sorted.1 hp)
    obtain ⟨n, g1, g2, g3, g4, q⟩ := hread e he
    have hk := WideAt.sameKey_eq hpk
    rw [rg_of (rg_ent g1 g2 g3 g4)] at hk
    simp only [Lit.int.injEq, true_and] at hk
    rw [← hk]
    exact q
  · obtain ⟨p, hp, hpk⟩ := h
    obtain ⟨j, hj, rfl⟩ := List.mem_iff_getElem.1 (hp1.mem_iff.2 hp)
    have hj' : j < ents.toList.length := by rw [← hp3.1]; exact hj
    obtain ⟨q1, _⟩ := hp3.2 j es'[j].1 es'[j].2 _ (List.getElem?_eq_getElem hj) (List.getElem?_eq_getElem hj')
    have he := List.getElem_mem hj'
    obtain ⟨n, g1, g2, g3, g4, _⟩ := hread _ he
    rw [g1, hpk] at q1
    cases q1
    refine List.any_eq_true.2 ⟨rg Tryd.prog 3 heldR (ents.toList[j]), mem_sorted.2 (List.mem_map.2 ⟨_, he, rfl⟩), ?_⟩
    rw [rg_of (rg_ent g1 g2 g3 g4)]
    exact WideAt.sameKey_self (law3.key (keyOf3 g2 g3))
end Go.Proofs.YtoilldfibaeokaaDoor
