/- Layer 5: copied: the program's own walk over its map, in whatever order, by the library's laws of maps. -/
import Derived.Test.YtoilldfibaeokaaDoorProg
import Derived.Test.YtoilldfibaeokaaDoorPg3
import Derived.WalkKit
import Derived.Maps.Ext
import Derived.Maps.RangeWalk
import Derived.BigCall
namespace Go.Proofs.YtoilldfibaeokaaDoor
open Go.RowKit Go.Maps

theorem law3 : Keyed Tryd.prog 3 := int_keyed Tryd.underlying3
/-- A type is read as it is. -/
def heldR : Value → Option (DataW Value × List MemPlace)
  | .agg cs => match cs.toList with
    | [.int .i64 _, .string _, .int .i64 _, .slice _ _ _] => some (.held (.agg cs), [])
    | _ => none
  | _ => none
def mkT (x : Int × ByteArray × Int × Option Addr × Nat × Nat) : Value := .agg #[.int .i64 x.1, .string x.2.1, .int .i64 x.2.2.1, .slice x.2.2.2.1 x.2.2.2.2.1 x.2.2.2.2.2]
theorem held_mkT (x : Int × ByteArray × Int × Option Addr × Nat × Nat) : heldR (mkT x) = some (.held (mkT x), []) := rfl
theorem held_inv {v : Value} {y : DataW Value × List MemPlace} (h : heldR v = some y) : ∃ c, v = mkT c := by
  unfold heldR at h
  split at h
  · rename_i cs
    obtain ⟨l⟩ := cs
    split at h
    · rename_i a b c d e f heq
      simp only at heq
      subst heq
      exact ⟨(a, b, c, d, e, f), rfl⟩
    · cases h
  · cases h

theorem run_und61 (w : World) : (underlying 61).run Tryd.prog w = .ok (.map 3 24) w := Go.Pg.run_und Tryd.underlying61
theorem run_len61 {b : Nat} {es : Array MapEntry} {clock : Nat} {w : World} (h : w.heap[b]? = some (.map es clock)) : (Builtin.len_ #[61] 3 #[Value.map (some b)]).run Tryd.prog w = .ok (.int .i64 es.size) w := by
  unfold Builtin.len_
  simp only [List.getElem?_toArray, List.getElem?_cons_zero]
  rw [Sem.run_bind, run_und61]
  simp only [Result.andThen]
  rw [Sem.run_bind, Go.MapKept.run_getObj_map h]
  rfl
theorem run_make61 (n : Int) (w : World) : (Instr.makeMap 61 (some (.int .i64 n))).run Tryd.prog w = .ok (.map (some w.heap.size)) (w.alloc (.map #[] 0)) := by
  unfold Instr.makeMap
  simp only
  rw [Sem.run_bind, run_und61]
  rfl

set_option maxRecDepth 100000 in
theorem copied_any (SB SO b n : Nat) (nx : Int) (D0 : DataW Value) (w : World) (h0 : w.cell? ⟨SB, SO, none⟩ = some (.int .i64 nx)) (h1 : w.cell? ⟨SB, SO + 1, none⟩ = some (.map (some b))) (hown : w.ownsMap Tryd.prog 3 heldR b n D0) (hmax : Maps.size D0 ≤ maxLen) :
    Calls Tryd.prog 33 #[.pointer (some ⟨SB, SO, none⟩)] w fun e w' => ∃ g, e = .returned (.pointer (some ⟨g, 0, none⟩)) ∧ w.heap.size < g ∧ w'.heap[g]? = some (.cells #[.int .i64 nx, .map (some w.heap.size)] 63 (0, 0)) ∧ w'.ownsMap Tryd.prog 3 heldR w.heap.size (Maps.size D0) D0 ∧ Below w.heap.size w w' := by
  have hmm2 := run_make61
  have hbl := hown.lt
  have hSB : SB < w.heap.size := by
    rcases Nat.lt_or_ge SB w.heap.size with h' | h'
    · exact h'
    · simp [World.cell?, Array.getElem?_eq_none h'] at h1
  have h1' : ∀ o, (w.alloc o).cell? ⟨SB, SO + 1, none⟩ = some (.map (some b)) := fun o => (World.cell?_alloc_lt w o _ hSB).trans h1
  have e1 : (w.alloc (.map #[] 0)).heap.size = w.heap.size + 1 := by simp
  have hlen : ∃ k : Nat, (Builtin.len_ #[61] 3 #[Value.map (some b)]).run Tryd.prog w = .ok (.int .i64 k) w := by
    obtain ⟨es, clock, hb, _⟩ := hown
    exact ⟨_, run_len61 hb⟩
  obtain ⟨k, hlen⟩ := hlen
  go_enter Tryd.func33, Tryd.ntmps33
  go_wp2_with (first
    | (at_range; refine wpList_range_own _ rfl _ 61 rfl 3 24 law3 Tryd.underlying61 heldR b n _ rfl (hown.alloc _) ?_; intro w0 hrg0 hg0 hs0)
    | go_in)
  go_frame
  rw [e1] at hrg0 hs0 ⊢
  go_loopw [4] (fun _ wr => ∃ (left : Lit → Bool) (cnt : Nat) (Dout : DataW Value), wr.ranges Tryd.prog 3 heldR b (w.heap.size + 1) n D0 left cnt ∧ cnt ≤ Maps.size D0 ∧
      wr.ownsMap Tryd.prog 3 heldR w.heap.size (Maps.size D0 - cnt) Dout ∧ Agree Dout D0 left ∧ Below w.heap.size w wr)
    (fun _ wr => wr.rangeLeft b (w.heap.size + 1))
  case atStart =>
    exact ⟨_, _, .map [], hrg0, Nat.le_refl _, ((World.ownsMap_made _ _ _ _).kept hg0 (by simp)).mono (Nat.zero_le _), agree_start D0, ((Below.refl _ _).alloc (Nat.le_refl _) _).grown hg0 (by simp) (fun j hj => by cases hj)⟩
  case round =>
    obtain ⟨left, cnt, Dout, hrg, hcs, hout, hA, hnx⟩ := hrel
    have hc0 : wr.cell? ⟨SB, SO, none⟩ = some (.int .i64 nx) := (hnx.cell hSB).trans h0
    go_wp2_with (first
      | (at_next; refine wpList_next_ranges _ rfl _ rfl 3 law3 heldR (Value.int .i64) mkT (fun key kl h => by obtain ⟨x, e, _⟩ := Maps.keyOf_int_inv Tryd.underlying3 h; exact ⟨x, e⟩) (fun v y h => held_inv h) b (w.heap.size + 1) n _ _ _ rfl hrg ?_ ?_)
      | go_in)
    · intro hcz hl0
      subst hcz
      go_wp2
      go_ret
      have e := agree_end hA hl0 (hout.canon law3) (hown.canon law3)
      subst e
      exact ⟨_, rfl, by have := hrg.lt; omega, Go.Pg.heap_new _ _, (by simpa using hout : World.ownsMap wr Tryd.prog 3 heldR w.heap.size (size Dout) Dout).alloc _, hnx.alloc hnx.size _⟩
    · intro x a1 b1 c1 d1 d2 d3 kl yd yp w1 cnt1 hkx hlx hRc hat hrg1 hlt hg1 hs1 hen
      have hout1 := hout.kept hg1 (by simp)
      cases hRc
      have HS1 : Hid (w1.heap.size = wr.heap.size) := hs1
      clear hs1
      simp only [mkT] at hen hat ⊢
      have hv4 : heldR (.agg #[.int .i64 a1, .string b1, .int .i64 c1, .slice d1 d2 d3]) = some (.held (.agg #[.int .i64 a1, .string b1, .int .i64 c1, .slice d1 d2 d3]), []) := rfl
      go_wp2_with (first
        | (at_mapUpdate; refine wpList_mapUpdate_own _ rfl _ _ _ 61 rfl 3 24 law3 Tryd.underlying61 heldR w.heap.size _ _ rfl (hout1.alloc _) (by have := HS1.out; omega) _ _ _ rfl rfl hkx _ [] hv4 ?_; intro w2 hout2 hg2; go_frame)
        | go_in)
      have hB1 := hnx.grown hg1 hnx.size (fun j hj => by cases hj; exact Nat.le_succ _)
      have hB2 := hB1.alloc hB1.size (.cells #[.int .i64 a1, .string b1, .int .i64 c1, .slice d1 d2 d3] 24)
      have hrg2 := (hrg1.alloc (.cells #[.int .i64 a1, .string b1, .int .i64 c1, .slice d1 d2 d3] 24)).kept hg2 (fun e => by have := Option.some.inj e; omega) (fun e => by have := Option.some.inj e; omega)
      refine ⟨⟨_, cnt1, _, hrg2, by omega, hout2.mono (by omega), agree_step hA hout.isMap (law3.key hkx) hat, hB2.grown hg2 hB2.size (fun j hj => by cases hj; exact Nat.le_refl _)⟩, ?_⟩
      rw [hrg2.left_eq, hrg.left_eq]
      exact hlt
end Go.Proofs.YtoilldfibaeokaaDoor
