/- Layer 17: what Calls computes, as an act of the small semantics. -/
import Derived.Test.YteelimkplbfiiaaPg3
namespace Go.Pg
/-- The numbers that stand one cell behind each of the pointers. -/
def callsL (σ : AHeap) : List Value → Option (List Int)
  | [] => some []
  | .pointer (some a) :: r => match σ.rdN (aadd a 1) 1 with
    | some [.int .i64 z] => (match callsL σ r with
      | some zs => some (z :: zs)
      | none => none)
    | _ => none
  | _ => none
def callsR (σ : AHeap) (p : Option Addr) (n : Nat) : Option (List Int) := bif Nat.beq n 0 then some [] else match p with
  | some b => (match σ.rdN b n with
    | some vs => callsL σ vs
    | none => none)
  | none => none
def revI : List Int → List Int → List Int
  | [], acc => acc
  | z :: zs, acc => revI zs (z :: acc)
def callsG : List Value → Act := fun args σ => match args with
  | [.pointer (some a)] => match σ.rdN (aadd a 2) 1 with
    | some [.slice p n _] => match callsR σ p n with
      | some [] => some (.slice none 0 0, σ)
      | some (z :: zs) => bif Nat.ble n 100000 then some (.slice (some (σ.here 1)) n n, σ.newBlk (ints .i64 (revI (z :: zs) [])) 1) else none
      | none => none
    | _ => none
  | _ => none
theorem revI_eq : ∀ (l acc : List Int), revI l acc = l.reverse ++ acc
  | [], acc => rfl
  | z :: zs, acc => by rw [revI, revI_eq zs]; simp

section
variable {ι : Inj} {W0 W W' : World} {σ : AHeap}
/-- A row that the world has made, whatever else it has made, gets its block. -/
theorem Rel.adopt (R : Rel ι W0 σ W) (hb : Go.RowKit.Below W.heap.size W W') {g : Nat} {cells : List Value} {cs : Array Value} {el : TypeId} {len cap' : Nat} (hg : W.heap.size ≤ g) (hcs : W'.heap[g]? = some (.cells cs el (0, 0)))
    (h1 : cells.all one = true) (hr : VRL ι W0.heap.size cells (cs.toList.take cells.length)) (hc : cells.length ≤ cap') (hx : cap' ≤ cs.size) :
    ∃ κ : Inj, ι.le κ ∧ Rel κ W0 (σ.newBlk cells 1) W' ∧ VR κ W0.heap.size (.slice (some (σ.here 1)) len cells.length) (.slice (some ⟨g, 0, none⟩) len cap') := by
  have hsz := R.below.size
  have hlen : cells.length ≤ cs.size := by omega
  have hgl : g < W'.heap.size := (Array.getElem?_eq_some_iff.1 hcs).1
  have hcell : ∀ o, W'.cell? ⟨g, o, none⟩ = cs[o]? := fun o => by simp [World.cell?, hcs]
  have hfro : ∀ o, W'.frozen? ⟨g, o, none⟩ = false := fun o => by simp [World.frozen?, hcs]
  have hhas : Has W' g cs.size := fun o ho => ⟨by rw [hcell]; simp [ho], hfro o⟩
  have hu : ∀ v, ι σ.n v = none := R.no_new
  have R1 : Rel ι W0 (σ.newBlk cells 1) W := R.push _
  have hbk : (σ.newBlk cells 1).get σ.n = some (.blk { cells, esz := 1, his := [cells.length], dirty := 0 }) := by
    show (σ.push _).get σ.n = _
    rw [AHeap.get_push, if_pos rfl]
  refine ⟨link ι σ.n ⟨g, 0, cs.size, cells.length, 1⟩, link_le (hu 0) (R.not_dead (Nat.le_refl _)), ?_, ?_⟩
  · refine R1.step (link_lem (hu 0)) (fun _ h => h.1) ⟨hb.os, hb.tape, hb.output, hb.size, fun k hk => hb.block k (by omega)⟩ σ.n (fun h => h.2 rfl) rfl (Nat.le_refl _) (by show σ.n < (σ.push _).n; simp) R1.fresh (fun _ _ => rfl) (fun j v i hj h => link_other hj h) ?_ ?_ ?_ ?_ ?_ ?_
    · intro v i h
      obtain ⟨rfl, rfl⟩ := link_only hu h
      exact ⟨by simp only; omega, hgl, fun j v' i' hj h' => by have := (R.dom _ _ _ h').2.2; simp only; omega⟩
    · intro v i v' i' h h' _
      rw [(link_only hu h).2, (link_only hu h').2]
    · intro c hc _
      exact hb.block c hc
    · intro B hB
      rw [hbk] at hB
      simp only [Option.some.injEq, AObj.blk.injEq] at hB
      subst hB
      refine ⟨{ last := rfl, ne := by simp, dirty := by simp, one := h1, ver := ?_ }, fun v i h => by obtain ⟨rfl, _⟩ := link_only hu h; simp⟩
      intro v hi hh
      have hv : v = 0 := by
        have := (List.getElem?_eq_some_iff.1 hh).1
        simp at this
        exact this
      subst hv
      simp at hh
      subst hh
      refine ⟨_, link_same, rfl, rfl, fun _ => ⟨Nat.le_refl _, Nat.zero_le _, by simpa using hlen, hhas, fun o _ ho => ?_⟩⟩
      obtain ⟨y, hy, hv⟩ := hr.get (List.getElem?_eq_getElem ho)
      refine ⟨cells[o], y, List.getElem?_eq_getElem ho, ?_, hv.monoM (link_lem (hu 0))⟩
      simp only
      rw [hcell]
      rw [List.getElem?_take, if_pos ho] at hy
      simpa using hy
    · intro es h
      rw [hbk] at h
      cases h
    · intro s p h
      rw [hbk] at h
      cases h
  · have := VR.sliceNew (ι := link ι σ.n ⟨g, 0, cs.size, cells.length, 1⟩) (B := W0.heap.size) (b := σ.n) (off := 0) (v := 1) (n := len) (c := cells.length) (c' := cap') link_same (Nat.zero_le _) hc (.inr ⟨rfl, by simp only; omega, by simp only; omega⟩)
    exact this
end
end Go.Pg
