/- Layer 5: the world changed where nothing is linked; the range of Unify under way. -/
import Derived.Test.YtoilldfibaeokaaDoorUniW
namespace Go.Pg
open Go.RowKit
section
variable {ι : Inj} {W0 W W' : World} {σ : AHeap}
/-- The world changed where nothing is linked and nothing is kept. -/
theorem Rel.other (R : Rel ι W0 σ W) (hb : Below W0.heap.size W W') (hkeep : ∀ j v i, ι j v = some i → W'.heap[i.c]? = W.heap[i.c]?) (hkk : ∀ c o, ι.keep c o → W'.heap[c]? = W.heap[c]?) : Rel ι W0 σ W' := by
  refine { below := R.below.trans hb, old := R.old, dom := fun j v i h => ?_, inj := R.inj, samelo := R.samelo, blk := ?_, vers := R.vers, map := ?_, iter := ?_, dead := R.dead, fresh := R.fresh, kept := fun c o h => ⟨by rw [hkk c o h]; exact (R.kept c o h).1, (R.kept c o h).2⟩ }
  · have := R.dom j v i h
    exact ⟨this.1, this.2.1, Nat.lt_of_lt_of_le this.2.2 hb.size⟩
  · intro j B v0 i0 hB hi0
    have OK := R.blk j B v0 i0 hB hi0
    refine { last := OK.last, ne := OK.ne, dirty := OK.dirty, one := OK.one, ver := fun v hi hh => ?_ }
    obtain ⟨i, f1, f2, f3, f4⟩ := OK.ver v hi hh
    refine ⟨i, f1, f2, f3, fun hd => ?_⟩
    obtain ⟨g1, g2, g3, g4, g5⟩ := f4 hd
    have hk := hkeep j v i f1
    refine ⟨g1, g2, g3, fun o hoo => ⟨by rw [cell_of_heap hk]; exact (g4 o hoo).1, by rw [frozen_of_heap hk]; exact (g4 o hoo).2⟩, fun o h1 h2 => ?_⟩
    obtain ⟨x, y, r1, r2, r3⟩ := g5 o h1 h2
    exact ⟨x, y, r1, by rw [cell_of_heap hk]; exact r2, r3⟩
  · intro j es v0 i0 hes hi0
    obtain ⟨i, f1, ents, clock, f2, f3⟩ := R.map j es v0 i0 hes hi0
    exact ⟨i, f1, ents, clock, by rw [hkeep j 0 i f1]; exact f2, f3⟩
  · intro j s p v0 i0 hs hi0
    obtain ⟨i, f1, f2, f3⟩ := R.iter j s p v0 i0 hs hi0
    exact ⟨i, f1, f2, by rw [hkeep j 0 i f1]; exact f3⟩
/-- A range under way: the struct's block b is g, the map's r (only read for now) is M, kept; the iterator I is nobody's. -/
def Ranging (W0 : World) (κ0 : Inj) (σ : AHeap) (b r g M I : Nat) (w : World) : Prop :=
  ∃ (κ : Inj) (i i2 : Info) (oM : Obj), κ0.le κ ∧ Rel κ W0 σ w ∧ κ b 0 = some i ∧ i.c = g ∧ i.lo = 0 ∧ κ r 0 = some i2 ∧ i2.c = M ∧ κ.keep M oM ∧ M < I ∧ W0.heap.size ≤ I ∧ I < w.heap.size ∧ (∀ j v i, κ j v = some i → i.c ≠ I) ∧ (∀ o, ¬ κ.keep I o) ∧ ∀ o, ¬ κ0.keep M o
theorem Ranging.next {κ0 : Inj} {b r g M I : Nat} (h : Ranging W0 κ0 σ b r g M I W) (hg : W.grownBy W' (some I)) (hs : W'.heap.size = W.heap.size) : Ranging W0 κ0 σ b r g M I W' := by
  obtain ⟨κ, i, i2, oM, h1, R, h3, h4, h5, h6, h7, h8, h9, h10, h11, h12, h13, h14⟩ := h
  refine ⟨κ, i, i2, oM, h1, R.other ⟨hg.os, hg.tape, hg.output, hg.size, fun k hk => hg.block k (by omega) (fun e => by have := Option.some.inj e; omega)⟩ (fun j v i hi => hg.block _ (R.dom _ _ _ hi).2.2 fun e => h12 _ _ _ hi (Option.some.inj e)) (fun c o ho => hg.block c (R.kept_lt ho) fun e => h13 o ((Option.some.inj e) ▸ ho)), h3, h4, h5, h6, h7, h8, h9, h10, by omega, h12, h13, h14⟩
end
end Go.Pg
