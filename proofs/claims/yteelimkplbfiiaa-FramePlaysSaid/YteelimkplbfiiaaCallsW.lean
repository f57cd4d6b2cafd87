/- Layer 17: Calls: the program's own walk over slices.Backward, by the library's laws of loops over functions. -/
import Derived.Test.YteelimkplbfiiaaProg
import Derived.KernelRfl
import Derived.RangeFuncBox
import Derived.RangeFuncLeaves
import Derived.Shelf.Abstract
import Derived.WalkKit
import Derived.OwnWalkIn
import Derived.TacticsInMore
import Derived.LoopNIn
import Derived.LoopIn
import Derived.Maps.AppendAt
import Derived.OrdersIn
namespace Go.Proofs.Yteelimkplbfiiaa
open Go.RowKit Go.Shelf

attribute [local go_sem] Oper.semAt_some

/-- The numbers below n, the last first. -/
def down (n : Nat) : List (Fin n) := (List.finRange n).reverse
theorem down_len (n : Nat) : (down n).length = n := by simp [down]
theorem down_get {n k : Nat} (h : k < n) : (down n)[k]? = some ⟨n - 1 - k, by omega⟩ := by
  unfold down
  rw [List.getElem?_reverse (by simpa using h)]
  simp [show n - 1 - k < n by omega]
theorem down_take {n k : Nat} (h : k < n) : (down n).take (k + 1) = (down n).take k ++ [⟨n - 1 - k, by omega⟩] := by
  rw [List.take_add_one, down_get h]
  rfl
theorem down_all (n : Nat) : (down n).take n = down n := List.take_of_length_le (by rw [down_len]; omega)

/-- What a round keeps: what lay below n₀; the box of what is ranged over. -/
def KB (n₀ Bs : Nat) (sv : Value) (X Y : World) : Prop := Below n₀ X Y ∧ (Boxed X Bs 67 sv → Boxed Y Bs 67 sv)
theorem KB.refl (n₀ Bs : Nat) (sv : Value) (X : World) : KB n₀ Bs sv X X := ⟨Below.refl _ _, fun h => h⟩
theorem KB.trans {n₀ Bs : Nat} {sv : Value} {X Y Z : World} (h : KB n₀ Bs sv X Y) (k : KB n₀ Bs sv Y Z) : KB n₀ Bs sv X Z := ⟨h.1.trans k.1, fun b => k.2 (h.2 b)⟩
theorem KB.put {n₀ Bs : Nat} {sv : Value} {w : World} (hn : n₀ ≤ w.heap.size) (W : World) (l : Nat) (o o' : Obj) (hl : w.heap.size ≤ l) (h : W.heap[l]? = some o) (h1 : o.isCells = false) (h2 : o.isWalk = false) : KB n₀ Bs sv W (W.putObj l o') := by
  refine ⟨belowK_b hn W l o o' hl h h1 h2, fun hb => hb.kept (grownBy_putObj' W l o') fun e => ?_⟩
  cases e
  rw [show W.heap[Bs]? = _ from hb] at h
  cases h
  cases h1
theorem boxed_own {β : Type} (B : Nat) (t : TypeId) (v : Value) : Own (fun (_ : β) W => Boxed W B t v) := by
  rintro s X Y row hv hg hrow
  refine hv.kept hg (fun e' => ?_)
  obtain ⟨o, ho, hc⟩ := hrow B e'.symm
  rw [show X.heap[B]? = _ from hv] at ho
  cases ho
  cases hc

set_option maxRecDepth 100000 in
set_option maxHeartbeats 2000000 in
/-- slices.Backward's closure, for every loop body that keeps what lay below n₀. -/
theorem back1_in (F : Fence) (n : Nat) (h44 : F.fn 44) (hro : F.round = none) (hn : 1 ≤ n) (l Bs n₀ b off len cap : Nat) (Ab Ao : Nat → Nat) (hlen : len ≤ 100000) (hb : b < n₀) (J Jx : List (Fin len) → World → Prop)
    (hY : ∀ pre (x : Fin len) W, J pre W → pre.length < len → YieldAt F (n - 1) Try.prog l #[.int .i64 (x.1 : Nat), .pointer (some ⟨Ab x.1, Ao x.1, none⟩)] W fun e W' =>
      (e = .returned (.bool true) ∧ J (pre ++ [x]) W' ∧ KB n₀ Bs (.slice (some ⟨b, off, none⟩) len cap) W W') ∨ (e = .returned (.bool false) ∧ Jx (pre ++ [x]) W'))
    (W : World) (hBs : Boxed W Bs 67 (.slice (some ⟨b, off, none⟩) len cap)) (hc : ∀ j, j < len → W.cell? ⟨b, off + j, none⟩ = some (.pointer (some ⟨Ab j, Ao j, none⟩))) (h0 : J [] W) :
    CallsIn F n Try.prog 44 #[.func (.yield l) #[] #[], .pointer (some ⟨Bs, 0, none⟩)] W fun e W' => (∃ v, e = .returned v) ∧ ((∃ ys, ys = down len ∧ J ys W') ∨ (∃ pre, True ∧ Jx pre W')) := by
  have hBc := hBs.cell
  refine callsIn_of_wp Try.func44 rfl h44 ?_ hro
  simp only [Try.ntmps44, List.size_toArray, List.length_cons, List.length_nil, Nat.reduceAdd, Nat.reduceSub, Array.replicate_succ, Array.replicate_zero, List.push_toArray, List.append_toArray, List.nil_append, List.cons_append]
  gi_wp2
  gi_loopw [3] (fun i wr => ∃ k : Nat, k ≤ len ∧ i = .int .i64 ((len : Int) - 1 - k) ∧ J ((down len).take k) wr ∧ KB n₀ Bs (.slice (some ⟨b, off, none⟩) len cap) W wr)
    (fun i _ => (intOf i + 1).toNat)
  case atStart => exact ⟨0, Nat.zero_le _, by simp, h0, KB.refl _ _ _ _⟩
  case round =>
    obtain ⟨k, hk, rfl, hJs, hnx⟩ := hrel
    by_cases hlt : k < len
    · obtain ⟨m, hm⟩ : ∃ m : Nat, len = k + 1 + m := ⟨len - 1 - k, by omega⟩
      have hmi : ((len : Int) - 1 - k) = (m : Int) := by omega
      have hml : m < len := by omega
      have htk : (down len).take (k + 1) = (down len).take k ++ [⟨m, hml⟩] := by
        rw [down_take hlt]
        congr 2
        exact Fin.ext (by simp only; omega)
      rw [hmi]
      have hx := hY _ ⟨m, hml⟩ wr hJs (by rw [List.length_take, down_len]; omega)
      obtain ⟨fn, tmps, assign, body, hy, hR⟩ := hx
      dsimp only at hy
      have hcx := (hnx.1.cell (p := ⟨b, off + m, none⟩) hb).trans (hc m hml)
      have hBs' := (hnx.2 hBs).cell
      have Hm : Hid (len = k + 1 + m) := hm
      clear hm hmi
      gi_wp2
      refine hR.mono ?_
      rintro e W3 (⟨rfl, hJ3, hk3⟩ | ⟨rfl, hJx3⟩)
      · gi_wp2
        go_roundw
        case rel =>
          exact ⟨k + 1, by omega, (show Value.int .i64 ((m : Int) - 1) = .int .i64 ((len : Int) - 1 - ((k + 1 : Nat) : Int)) from congrArg _ (by have := Hm.out; omega)), by rw [htk]; exact hJ3, hnx.trans hk3⟩
        case measure => simp [intOf]
      · gi_wp2
        refine bodyPost_ret (results_none rfl _ _ _) rfl ?_
        exact ⟨⟨_, rfl⟩, .inr ⟨_, trivial, hJx3⟩⟩
    · obtain rfl : k = len := by omega
      have hmi : ((k : Int) - 1 - k) = -1 := by omega
      rw [hmi]
      rw [down_all] at hJs
      gi_wp2
      go_end0
      exact ⟨⟨_, rfl⟩, .inl ⟨_, rfl, hJs⟩⟩

set_option maxRecDepth 100000 in
set_option maxHeartbeats 1000000 in
/-- .. at the nil slice: no round. -/
theorem back1_nil_in (F : Fence) (n : Nat) (h44 : F.fn 44) (hro : F.round = none) (l Bs : Nat) (J : List (Fin 0) → World → Prop) (W : World) (cap : Nat) (hBs : W.cell? ⟨Bs, 0, none⟩ = some (.slice none 0 cap)) (h0 : J [] W) :
    CallsIn F n Try.prog 44 #[.func (.yield l) #[] #[], .pointer (some ⟨Bs, 0, none⟩)] W fun e W' => (∃ v, e = .returned v) ∧ J [] W' := by
  refine callsIn_of_wp Try.func44 rfl h44 ?_ hro
  simp only [Try.ntmps44, List.size_toArray, List.length_cons, List.length_nil, Nat.reduceAdd, Nat.reduceSub, Array.replicate_succ, Array.replicate_zero, List.push_toArray, List.append_toArray, List.nil_append, List.cons_append]
  gi_wp2
  gi_loopw [3] (fun i wr => i = .int .i64 (-1) ∧ J [] wr) (fun _ _ => 0)
  case atStart => exact ⟨rfl, h0⟩
  case round =>
    obtain ⟨rfl, hJs⟩ := hrel
    gi_wp2
    go_end0
    exact ⟨⟨_, rfl⟩, hJs⟩

set_option maxRecDepth 100000 in
set_option maxHeartbeats 1000000 in
/-- .. at an empty slice: no round. -/
theorem back1_zero_in (F : Fence) (n : Nat) (h44 : F.fn 44) (hro : F.round = none) (l Bs : Nat) (a : Addr) (J : List (Fin 0) → World → Prop) (W : World) (cap : Nat) (hBs : W.cell? ⟨Bs, 0, none⟩ = some (.slice (some a) 0 cap)) (h0 : J [] W) :
    CallsIn F n Try.prog 44 #[.func (.yield l) #[] #[], .pointer (some ⟨Bs, 0, none⟩)] W fun e W' => (∃ v, e = .returned v) ∧ J [] W' := by
  refine callsIn_of_wp Try.func44 rfl h44 ?_ hro
  simp only [Try.ntmps44, List.size_toArray, List.length_cons, List.length_nil, Nat.reduceAdd, Nat.reduceSub, Array.replicate_succ, Array.replicate_zero, List.push_toArray, List.append_toArray, List.nil_append, List.cons_append]
  gi_wp2
  gi_loopw [3] (fun i wr => i = .int .i64 (-1) ∧ J [] wr) (fun _ _ => 0)
  case atStart => exact ⟨rfl, h0⟩
  case round =>
    obtain ⟨rfl, hJs⟩ := hrel
    gi_wp2
    go_end0
    exact ⟨⟨_, rfl⟩, hJs⟩

set_option maxHeartbeats 1000000 in
/-- slices.Backward: the slice is boxed; the function captures the box. -/
theorem back_in (F : Fence) (n : Nat) (h42 : F.fn 42) (hro : F.round = none) (a : Option Addr) (len cap : Nat) (w : World) :
    CallsIn F n Try.prog 42 #[.slice a len cap] w fun e w' => e = .returned (.func (.func 44) #[] #[.pointer (some ⟨w.heap.size, 0, none⟩)]) ∧ w' = w.alloc (.cells #[.slice a len cap] 67) := by
  refine callsIn_of_wp Try.func42 rfl h42 ?_ hro
  simp only [Try.ntmps42, List.size_toArray, List.length_cons, List.length_nil, Nat.reduceAdd, Nat.reduceSub, Array.replicate_succ, Array.replicate_zero, List.push_toArray, List.append_toArray, List.nil_append, List.cons_append]
  gi_wp2
  go_ret
  exact ⟨rfl, rfl⟩

/-- What slices.Backward hands back gives the pointers, the last first. -/
theorem back_stops (F : Fence) (n : Nat) (h44 : F.fn 44) (hro : F.round = none) (hn : 1 ≤ n) (Bs n₀ len cap : Nat) (q : Option Addr) (Ab Ao : Nat → Nat) (hlen : len ≤ 100000) (w : World) (hn₀ : n₀ ≤ w.heap.size) (hB : Boxed w Bs 67 (.slice q len cap))
    (hq : len = 0 ∨ ∃ b off, q = some ⟨b, off, none⟩ ∧ b < n₀ ∧ ∀ j, j < len → w.cell? ⟨b, off + j, none⟩ = some (.pointer (some ⟨Ab j, Ao j, none⟩))) :
    SeqStopsK F n Try.prog 44 #[.pointer (some ⟨Bs, 0, none⟩)] (fun x : Fin len => #[Value.int .i64 (x.1 : Nat), .pointer (some ⟨Ab x.1, Ao x.1, none⟩)]) (KB n₀ Bs (.slice q len cap)) (fun ys => ys = down len) (fun _ => True) len w := fun l J Jx W hW _ _ hY h0 => by
  have hB' : Boxed W Bs 67 (.slice q len cap) := (hW.block Bs hB.lt).trans hB
  rcases hq with rfl | ⟨b, off, rfl, hb, hcs⟩
  · cases q with
    | none =>
      refine (back1_nil_in F n h44 hro l Bs J W cap hB'.cell h0).mono ?_
      rintro e W' ⟨he, h⟩
      exact ⟨he, .inl ⟨[], rfl, h⟩⟩
    | some a =>
      refine (back1_zero_in F n h44 hro l Bs a J W cap hB'.cell h0).mono ?_
      rintro e W' ⟨he, h⟩
      exact ⟨he, .inl ⟨[], rfl, h⟩⟩
  · refine (back1_in F n h44 hro hn l Bs n₀ b off len cap Ab Ao hlen hb J Jx hY W hB' (fun j hj => (hW.cell (p := ⟨b, off + j, none⟩) (by simp only; omega)).trans (hcs j hj)) h0).mono ?_
    rintro e W' ⟨he, h⟩
    exact ⟨he, h⟩

/-- The append of a row of the call's own, as one step of a region that draws its order. -/
theorem stepIn_append_own {F : Fence} {n : Nat} {P : Program} {ops : Array Oper} (w : World) {o : Oper} {a : Act} {K : Act → World → Prop} {Q : Exit → Act → World → Prop} {E : Prop}
    (hg : o.guard = none) (s x : Operand) (t : TypeId) (hop : o.op = Op.call { callee := Callee.builtin Builtin.append, args := #[s, x], argTypes := #[t, t] })
    (base : Nat) (e : TypeId) (i : TypeInfo) (z : Value) (size bytes : Nat) (h1 : P.underlying t = some (.slice e)) (h2 : P.info? e = some i) (h3 : i.zero = some z) (h4 : i.size = size) (h5 : i.bytes = bytes) (h6 : z.cells.size = size) (h7 : 0 < size)
    (v : Value) (k : Nat) (xs : List Value) (hs : a.eval s = v) (hown : w.ownsRow base e size v k xs) (ad : Addr) (m c : Nat) (news : List Value) (hx : a.eval x = .slice (some ad) m c) (hn : news.length = m * size)
    (hc : ∀ j u, news[j]? = some u → w.cell? (ad.add j) = some u) (h1c : ∀ u ∈ news, u.oneCell' = true) (b1 : k + m ≤ maxLen) (b2 : (k + m) * bytes ≤ 140737488355328) (b3 : base ≤ w.heap.size)
    (hK : ∀ v' w', w'.ownsRow base e size v' (k + m) (xs ++ news) → w.grownBy w' v.ownBlock → (v' = .slice none 0 0 ↔ v = .slice none 0 0 ∧ m = 0) → K (a.put o.dst v') w') :
    if Region.wanted o (yielded ops a.tmps) = true then Oper.wpIn F n P o a w K Q else E := by
  have hw : Region.wanted o (yielded ops a.tmps) = true := by simp [Region.wanted, hg]
  rw [if_pos hw]
  obtain ⟨v', w', hrun, r1, r2, r3⟩ := run_append_own (P := P) w base t o.type e i z size bytes h1 h2 h3 h4 h5 h6 h7 v k xs hown ad m c news hn hc h1c b1 b2 b3
  unfold Oper.wpIn
  refine ⟨?_, ?_⟩
  · simp [Oper.about, hop, resolve, Target.leads, Sem.run_pure]
  · rw [Oper.semAt_plain F _ _ (by rw [hop]; intro c hc'; cases hc')]
    simp [execOp, hop, resolve, invoke, builtin, hs, hx, hrun, Result.andThen]
    exact hK v' w' r1 r2 r3

/-- What an append behind a draw leaves: the box, the row, what is ranged over. -/
theorem app1 {w W w1 : World} {sv v v' : Value} {k : Nat} {xs ys : List Value} {tmp : Obj} (hv : Boxed W w.heap.size 22 v) (hrow : W.ownsRow w.heap.size 3 1 v k xs) (hB : Below w.heap.size w W) (hbs : Boxed W (w.heap.size + 1) 67 sv)
    (hown' : w1.ownsRow w.heap.size 3 1 v' (k + 1) ys) (hgrow : ((W.alloc tmp).drew).grownBy w1 v.ownBlock) :
    Boxed w1 w.heap.size 22 v ∧ Boxed (w1.setCell ⟨w.heap.size, 0, none⟩ v') w.heap.size 22 v' ∧ (w1.setCell ⟨w.heap.size, 0, none⟩ v').ownsRow w.heap.size 3 1 v' (k + 1) ys ∧ KeepsOthers W (w1.setCell ⟨w.heap.size, 0, none⟩ v') ∧ Below w.heap.size W (w1.setCell ⟨w.heap.size, 0, none⟩ v') ∧
      Boxed (w1.setCell ⟨w.heap.size, 0, none⟩ v') (w.heap.size + 1) 67 sv ∧ ∃ g' cap', v' = .slice (some ⟨g', 0, none⟩) (k + 1) cap' := by
  have hg : (W.alloc tmp).grownBy w1 v.ownBlock := ⟨hgrow.1, hgrow.2, hgrow.3, hgrow.4, hgrow.5⟩
  obtain ⟨a1, a2, a3, a4, a5⟩ := hv.appended (by decide) hrow hB.size (Nat.le_refl _) hown' hg
  exact ⟨a1, a2, a3, a4, a5, ((hbs.alloc _).kept hg (hbs.not_row (by decide) hrow)).kept (grownBy_setCell' w1 w.heap.size v') (by simp), ownsRow_succ hown'⟩

theorem info3 : (Try.prog.info? 3).map (fun i => (i.zero, i.size, i.bytes)) = some (some (.int .i64 0), 1, 8) := by kernel_rfl

set_option maxRecDepth 100000 in
set_option maxHeartbeats 4000000 in
/-- Calls: each frame's call, the top first. -/
theorem calls_in (F : Fence) (n : Nat) (h25 : F.fn 25) (h42 : F.fn 42) (h44 : F.fn 44) (hro : F.round = none) (hn : 3 ≤ n) (SB SO len cap : Nat) (q : Option Addr) (Ab Ao : Nat → Nat) (C : Nat → Int) (hlen : len ≤ 100000) (w : World)
    (hS : w.cell? ⟨SB, SO + 2, none⟩ = some (.slice q len cap)) (hq : len = 0 ∨ ∃ b off, q = some ⟨b, off, none⟩ ∧ ∀ j, j < len → w.cell? ⟨b, off + j, none⟩ = some (.pointer (some ⟨Ab j, Ao j, none⟩)))
    (hC : ∀ j, j < len → w.cell? ⟨Ab j, Ao j + 1, none⟩ = some (.int .i64 (C j))) :
    CallsIn F n Try.prog 25 #[.pointer (some ⟨SB, SO, none⟩)] w fun e W' => ∃ v, e = .returned v ∧ W'.ownsRow w.heap.size 3 1 v len ((down len).map fun x => Value.int .i64 (C x.1)) ∧ (v = .slice none 0 0 ↔ len = 0) ∧ Below w.heap.size w W' := by
  have h1 : 1 ≤ n := by omega
  have cellLt : ∀ (W : World) (p : Addr) v, W.cell? p = some v → p.block < W.heap.size := by
    intro W p v h
    rcases Nat.lt_or_ge p.block W.heap.size with h' | h'
    · exact h'
    · simp [World.cell?, Array.getElem?_eq_none h'] at h
  obtain ⟨i0, hi, hz0, hz1, hz2⟩ := info_parts info3
  have hS' : ∀ o, (w.alloc o).cell? ⟨SB, SO + 2, none⟩ = some (.slice q len cap) := fun o => (World.cell?_alloc_lt w o _ (cellLt _ _ _ hS)).trans hS
  refine callsIn_of_wp_marks Try.func25 rfl h25 ?_ hro
  simp only [Try.ntmps25, List.size_toArray, List.length_cons, List.length_nil, Nat.reduceAdd, Nat.reduceSub, Array.replicate_succ, Array.replicate_zero, List.push_toArray, List.append_toArray, List.nil_append, List.cons_append]
  gi_wp2_with (gi_at_call 42; refine (back_in F (n - 1) h42 hro _ _ _ _).mono ?_; rintro e w' ⟨rfl, rfl⟩)
  have bO := Boxed.new w 22 (.slice none 0 0)
  have bN := Boxed.new (w.alloc (.cells #[.slice none 0 0] 22)) 67 (.slice q len cap)
  rw [World.size_alloc] at bN
  have hB0 : Below w.heap.size w ((w.alloc (.cells #[.slice none 0 0] 22)).alloc (.cells #[.slice q len cap] 67)) := ((Below.refl _ w).alloc (Nat.le_refl _) _).alloc (by simp) _
  refine wpIn_rangeFunc_ownG hro h1 (gf := 44) (lb := #[.pointer (some ⟨w.heap.size + 1, 0, none⟩)]) rfl h44 (enters_of Try.func44 (by kernel_rfl) rfl)
    (back_stops F (n - 1) h44 hro (by omega) (w.heap.size + 1) w.heap.size len cap q Ab Ao hlen _ (by simp; omega) bN (by
      rcases hq with h | ⟨b, off, rfl, hcs⟩
      · exact .inl h
      · by_cases h0 : len = 0
        · exact .inl h0
        · exact .inr ⟨b, off, rfl, cellLt _ ⟨b, off + 0, none⟩ _ (hcs 0 (by omega)), fun j hj => (hB0.cell (p := ⟨b, off + j, none⟩) (cellLt _ _ _ (hcs j hj))).trans (hcs j hj)⟩))
    (fun h k => h.trans k) (KB.put (by simp; omega)) (Below.refl _ _) (fun _ => rfl)
    (fun pre W => ((∃ v, Boxed W w.heap.size 22 v ∧ W.ownsRow w.heap.size 3 1 v pre.length (pre.map fun x => Value.int .i64 (C x.1)) ∧ (v = .slice none 0 0 ↔ pre.length = 0)) ∧ Boxed W (w.heap.size + 1) 67 (.slice q len cap)) ∧ Below w.heap.size w W)
    (fun _ _ _ => False)
    (OwnFrom.and (OwnFrom.and (Own.from (holdsRow_own (β := List (Fin len)) w.heap.size w.heap.size 22 3 1 (fun pre => pre.length) (fun pre => pre.map fun x => Value.int .i64 (C x.1)) (fun pre v => v = .slice none 0 0 ↔ pre.length = 0)) _) (Own.from (boxed_own _ _ _) _)) (ownFrom_below (Nat.le_refl _) (by simp; omega)))
    (fun _ _ _ _ _ hs _ _ => hs)
    ⟨⟨⟨_, bO.alloc _, World.ownsRow_nil _ _ _ _, by simp⟩, bN⟩, hB0⟩
    (fun x => { tmps := #[.pointer (some ⟨SB, SO, none⟩), undef, .slice none 0 0, .pointer (some ⟨w.heap.size, 0, none⟩), undef, .pointer (some ⟨Ab x.1, Ao x.1, none⟩), .pointer (some ⟨SB, SO, none⟩), .pointer (some ⟨SB, SO, none⟩), .pointer (some ⟨SB, SO + 2, none⟩), .slice q len cap, .func (.func 44) #[] #[.pointer (some ⟨w.heap.size + 1, 0, none⟩)], .int .i64 (x.1 : Nat), .pointer (some ⟨Ab x.1, Ao x.1, none⟩), undef, undef, undef, undef, undef, undef, undef, undef], defers := [] }) ?assign ?body ?done ?stop
  case assign =>
    intro l x W K hK
    gi_wp2
    exact hK
  case body =>
    rintro l pre x W ⟨⟨⟨v, hv, hrow, hnil⟩, hbs⟩, hB⟩ hlt
    have hc := hv.cell
    have hcx : W.cell? ⟨Ab x.1, Ao x.1 + 1, none⟩ = some (.int .i64 (C x.1)) := (hB.cell (p := ⟨Ab x.1, Ao x.1 + 1, none⟩) (cellLt _ _ _ (hC x.1 x.2))).trans (hC x.1 x.2)
    gi_wp2
    refine wpIn_region_any (by kernel_rfl) ?_
    change wpAnyIn _ _ _ _ _ _ _ _ _ (World.drew _)
    have hsz : w.heap.size ≤ (W.alloc (.cells #[Value.int .i64 (C x.1)] 3)).drew.heap.size := by
      have := hB.size
      show w.heap.size ≤ (W.alloc (.cells #[Value.int .i64 (C x.1)] 3)).heap.size
      rw [World.size_alloc]
      omega
    have hrowA : (W.alloc (.cells #[Value.int .i64 (C x.1)] 3)).drew.ownsRow w.heap.size 3 1 v pre.length (pre.map fun x => Value.int .i64 (C x.1)) := hrow.alloc (.cells #[Value.int .i64 (C x.1)] 3)
    have hnewc : ∀ j u, [Value.int .i64 (C x.1)][j]? = some u → (W.alloc (.cells #[Value.int .i64 (C x.1)] 3)).drew.cell? ((⟨W.heap.size, 0, none⟩ : Addr).add j) = some u := cell_one_new _ _ _
    have hcA : ∀ o, (W.alloc o).cell? ⟨w.heap.size, 0, none⟩ = some v := fun o => (hv.alloc o).cell
    refine wpAnyIn_ready (rs := [0, 1]) (by kernel_rfl) (by simp) (AllReadyIn.cons rfl (fun K hK => ?_) (AllReadyIn.cons rfl (fun K hK => ?_) AllReadyIn.nil)) <;> (go_simp; refine hK _ _ ?_; clear hK K)
    · refine wpAnyIn_ready (rs := [1]) (by kernel_rfl) (by simp) (AllReadyIn.cons rfl (fun K hK => ?_) AllReadyIn.nil); go_simp; refine hK _ _ ?_; clear hK K; refine wpAnyIn_ready (rs := [2]) (by kernel_rfl) (by simp) (AllReadyIn.cons rfl (fun K hK => ?_) AllReadyIn.nil); go_simp; refine hK _ _ ?_; clear hK K; refine wpAnyIn_ready (rs := [3]) (by kernel_rfl) (by simp) (AllReadyIn.cons rfl (fun K hK => ?_) AllReadyIn.nil); go_simp; refine hK _ _ ?_; clear hK K; refine wpAnyIn_ready (rs := [4]) (by kernel_rfl) (by simp) (AllReadyIn.cons rfl (fun K hK => ?_) AllReadyIn.nil); go_simp; refine hK _ _ ?_; clear hK K; refine wpAnyIn_ready (rs := [5]) (by kernel_rfl) (by simp) (AllReadyIn.cons rfl (fun K hK => ?_) AllReadyIn.nil); go_simp; refine hK _ _ ?_; clear hK K
      refine wpAnyIn_ready (rs := [6]) (by kernel_rfl) (by simp) (AllReadyIn.cons rfl (fun K hK => ?_) AllReadyIn.nil)
      refine stepIn_append_own _ rfl _ _ 22 rfl w.heap.size 3 i0 (.int .i64 0) 1 8 Try.underlying22 hi hz0 hz1 hz2 rfl (by decide) v pre.length (pre.map fun x => Value.int .i64 (C x.1)) rfl hrowA ⟨W.heap.size, 0, none⟩ 1 1 [.int .i64 (C x.1)] rfl rfl hnewc (by simp [Value.oneCell']) (by unfold maxLen; omega) (by omega) hsz ?_
      intro v' w1 hown' hgrow _
      obtain ⟨hv1, hv2, hr2, hk2, hb2, hbs2, g', cap', rfl⟩ := app1 hv hrow hB hbs hown' hgrow
      have hc1 := hv1.cell
      have hf1 := hv1.frozen
      refine hK _ _ ?_; clear hK K
      refine wpAnyIn_ready (rs := [7]) (by kernel_rfl) (by simp) (AllReadyIn.cons rfl (fun K hK => ?_) AllReadyIn.nil)
      go_simp
      refine hK _ _ ?_; clear hK K
      refine wpAnyIn_done (by kernel_rfl) ?_ _
      exact ⟨hk2.from _, ⟨hb2, fun _ => hbs2⟩, ⟨⟨_, hv2, by simpa using hr2, by simp⟩, hbs2⟩, hB.trans hb2⟩
    ·
      refine wpAnyIn_ready (rs := [0, 2]) (by kernel_rfl) (by simp) (AllReadyIn.cons rfl (fun K hK => ?_) (AllReadyIn.cons rfl (fun K hK => ?_) AllReadyIn.nil)) <;> (go_simp; refine hK _ _ ?_; clear hK K)
      · refine wpAnyIn_ready (rs := [2]) (by kernel_rfl) (by simp) (AllReadyIn.cons rfl (fun K hK => ?_) AllReadyIn.nil); go_simp; refine hK _ _ ?_; clear hK K; refine wpAnyIn_ready (rs := [3]) (by kernel_rfl) (by simp) (AllReadyIn.cons rfl (fun K hK => ?_) AllReadyIn.nil); go_simp; refine hK _ _ ?_; clear hK K; refine wpAnyIn_ready (rs := [4]) (by kernel_rfl) (by simp) (AllReadyIn.cons rfl (fun K hK => ?_) AllReadyIn.nil); go_simp; refine hK _ _ ?_; clear hK K; refine wpAnyIn_ready (rs := [5]) (by kernel_rfl) (by simp) (AllReadyIn.cons rfl (fun K hK => ?_) AllReadyIn.nil); go_simp; refine hK _ _ ?_; clear hK K
        refine wpAnyIn_ready (rs := [6]) (by kernel_rfl) (by simp) (AllReadyIn.cons rfl (fun K hK => ?_) AllReadyIn.nil)
        refine stepIn_append_own _ rfl _ _ 22 rfl w.heap.size 3 i0 (.int .i64 0) 1 8 Try.underlying22 hi hz0 hz1 hz2 rfl (by decide) v pre.length (pre.map fun x => Value.int .i64 (C x.1)) rfl hrowA ⟨W.heap.size, 0, none⟩ 1 1 [.int .i64 (C x.1)] rfl rfl hnewc (by simp [Value.oneCell']) (by unfold maxLen; omega) (by omega) hsz ?_
        intro v' w1 hown' hgrow _
        obtain ⟨hv1, hv2, hr2, hk2, hb2, hbs2, g', cap', rfl⟩ := app1 hv hrow hB hbs hown' hgrow
        have hc1 := hv1.cell
        have hf1 := hv1.frozen
        refine hK _ _ ?_; clear hK K
        refine wpAnyIn_ready (rs := [7]) (by kernel_rfl) (by simp) (AllReadyIn.cons rfl (fun K hK => ?_) AllReadyIn.nil)
        go_simp
        refine hK _ _ ?_; clear hK K
        refine wpAnyIn_done (by kernel_rfl) ?_ _
        exact ⟨hk2.from _, ⟨hb2, fun _ => hbs2⟩, ⟨⟨_, hv2, by simpa using hr2, by simp⟩, hbs2⟩, hB.trans hb2⟩
      ·
        refine wpAnyIn_ready (rs := [0, 3]) (by kernel_rfl) (by simp) (AllReadyIn.cons rfl (fun K hK => ?_) (AllReadyIn.cons rfl (fun K hK => ?_) AllReadyIn.nil)) <;> (go_simp; refine hK _ _ ?_; clear hK K)
        · refine wpAnyIn_ready (rs := [3]) (by kernel_rfl) (by simp) (AllReadyIn.cons rfl (fun K hK => ?_) AllReadyIn.nil); go_simp; refine hK _ _ ?_; clear hK K; refine wpAnyIn_ready (rs := [4]) (by kernel_rfl) (by simp) (AllReadyIn.cons rfl (fun K hK => ?_) AllReadyIn.nil); go_simp; refine hK _ _ ?_; clear hK K; refine wpAnyIn_ready (rs := [5]) (by kernel_rfl) (by simp) (AllReadyIn.cons rfl (fun K hK => ?_) AllReadyIn.nil); go_simp; refine hK _ _ ?_; clear hK K
          refine wpAnyIn_ready (rs := [6]) (by kernel_rfl) (by simp) (AllReadyIn.cons rfl (fun K hK => ?_) AllReadyIn.nil)
          refine stepIn_append_own _ rfl _ _ 22 rfl w.heap.size 3 i0 (.int .i64 0) 1 8 Try.underlying22 hi hz0 hz1 hz2 rfl (by decide) v pre.length (pre.map fun x => Value.int .i64 (C x.1)) rfl hrowA ⟨W.heap.size, 0, none⟩ 1 1 [.int .i64 (C x.1)] rfl rfl hnewc (by simp [Value.oneCell']) (by unfold maxLen; omega) (by omega) hsz ?_
          intro v' w1 hown' hgrow _
          obtain ⟨hv1, hv2, hr2, hk2, hb2, hbs2, g', cap', rfl⟩ := app1 hv hrow hB hbs hown' hgrow
          have hc1 := hv1.cell
          have hf1 := hv1.frozen
          refine hK _ _ ?_; clear hK K
          refine wpAnyIn_ready (rs := [7]) (by kernel_rfl) (by simp) (AllReadyIn.cons rfl (fun K hK => ?_) AllReadyIn.nil)
          go_simp
          refine hK _ _ ?_; clear hK K
          refine wpAnyIn_done (by kernel_rfl) ?_ _
          exact ⟨hk2.from _, ⟨hb2, fun _ => hbs2⟩, ⟨⟨_, hv2, by simpa using hr2, by simp⟩, hbs2⟩, hB.trans hb2⟩
        ·
          refine wpAnyIn_ready (rs := [0, 4]) (by kernel_rfl) (by simp) (AllReadyIn.cons rfl (fun K hK => ?_) (AllReadyIn.cons rfl (fun K hK => ?_) AllReadyIn.nil)) <;> (go_simp; refine hK _ _ ?_; clear hK K)
          · refine wpAnyIn_ready (rs := [4]) (by kernel_rfl) (by simp) (AllReadyIn.cons rfl (fun K hK => ?_) AllReadyIn.nil); go_simp; refine hK _ _ ?_; clear hK K; refine wpAnyIn_ready (rs := [5]) (by kernel_rfl) (by simp) (AllReadyIn.cons rfl (fun K hK => ?_) AllReadyIn.nil); go_simp; refine hK _ _ ?_; clear hK K
            refine wpAnyIn_ready (rs := [6]) (by kernel_rfl) (by simp) (AllReadyIn.cons rfl (fun K hK => ?_) AllReadyIn.nil)
            refine stepIn_append_own _ rfl _ _ 22 rfl w.heap.size 3 i0 (.int .i64 0) 1 8 Try.underlying22 hi hz0 hz1 hz2 rfl (by decide) v pre.length (pre.map fun x => Value.int .i64 (C x.1)) rfl hrowA ⟨W.heap.size, 0, none⟩ 1 1 [.int .i64 (C x.1)] rfl rfl hnewc (by simp [Value.oneCell']) (by unfold maxLen; omega) (by omega) hsz ?_
            intro v' w1 hown' hgrow _
            obtain ⟨hv1, hv2, hr2, hk2, hb2, hbs2, g', cap', rfl⟩ := app1 hv hrow hB hbs hown' hgrow
            have hc1 := hv1.cell
            have hf1 := hv1.frozen
            refine hK _ _ ?_; clear hK K
            refine wpAnyIn_ready (rs := [7]) (by kernel_rfl) (by simp) (AllReadyIn.cons rfl (fun K hK => ?_) AllReadyIn.nil)
            go_simp
            refine hK _ _ ?_; clear hK K
            refine wpAnyIn_done (by kernel_rfl) ?_ _
            exact ⟨hk2.from _, ⟨hb2, fun _ => hbs2⟩, ⟨⟨_, hv2, by simpa using hr2, by simp⟩, hbs2⟩, hB.trans hb2⟩
          ·
            refine wpAnyIn_ready (rs := [0, 5]) (by kernel_rfl) (by simp) (AllReadyIn.cons rfl (fun K hK => ?_) (AllReadyIn.cons rfl (fun K hK => ?_) AllReadyIn.nil)) <;> (go_simp; refine hK _ _ ?_; clear hK K)
            · refine wpAnyIn_ready (rs := [5]) (by kernel_rfl) (by simp) (AllReadyIn.cons rfl (fun K hK => ?_) AllReadyIn.nil); go_simp; refine hK _ _ ?_; clear hK K
              refine wpAnyIn_ready (rs := [6]) (by kernel_rfl) (by simp) (AllReadyIn.cons rfl (fun K hK => ?_) AllReadyIn.nil)
              refine stepIn_append_own _ rfl _ _ 22 rfl w.heap.size 3 i0 (.int .i64 0) 1 8 Try.underlying22 hi hz0 hz1 hz2 rfl (by decide) v pre.length (pre.map fun x => Value.int .i64 (C x.1)) rfl hrowA ⟨W.heap.size, 0, none⟩ 1 1 [.int .i64 (C x.1)] rfl rfl hnewc (by simp [Value.oneCell']) (by unfold maxLen; omega) (by omega) hsz ?_
              intro v' w1 hown' hgrow _
              obtain ⟨hv1, hv2, hr2, hk2, hb2, hbs2, g', cap', rfl⟩ := app1 hv hrow hB hbs hown' hgrow
              have hc1 := hv1.cell
              have hf1 := hv1.frozen
              refine hK _ _ ?_; clear hK K
              refine wpAnyIn_ready (rs := [7]) (by kernel_rfl) (by simp) (AllReadyIn.cons rfl (fun K hK => ?_) AllReadyIn.nil)
              go_simp
              refine hK _ _ ?_; clear hK K
              refine wpAnyIn_done (by kernel_rfl) ?_ _
              exact ⟨hk2.from _, ⟨hb2, fun _ => hbs2⟩, ⟨⟨_, hv2, by simpa using hr2, by simp⟩, hbs2⟩, hB.trans hb2⟩
            ·
              refine wpAnyIn_ready (rs := [0]) (by kernel_rfl) (by simp) (AllReadyIn.cons rfl (fun K hK => ?_) AllReadyIn.nil); go_simp; refine hK _ _ ?_; clear hK K
              refine wpAnyIn_ready (rs := [6]) (by kernel_rfl) (by simp) (AllReadyIn.cons rfl (fun K hK => ?_) AllReadyIn.nil)
              refine stepIn_append_own _ rfl _ _ 22 rfl w.heap.size 3 i0 (.int .i64 0) 1 8 Try.underlying22 hi hz0 hz1 hz2 rfl (by decide) v pre.length (pre.map fun x => Value.int .i64 (C x.1)) rfl hrowA ⟨W.heap.size, 0, none⟩ 1 1 [.int .i64 (C x.1)] rfl rfl hnewc (by simp [Value.oneCell']) (by unfold maxLen; omega) (by omega) hsz ?_
              intro v' w1 hown' hgrow _
              obtain ⟨hv1, hv2, hr2, hk2, hb2, hbs2, g', cap', rfl⟩ := app1 hv hrow hB hbs hown' hgrow
              have hc1 := hv1.cell
              have hf1 := hv1.frozen
              refine hK _ _ ?_; clear hK K
              refine wpAnyIn_ready (rs := [7]) (by kernel_rfl) (by simp) (AllReadyIn.cons rfl (fun K hK => ?_) AllReadyIn.nil)
              go_simp
              refine hK _ _ ?_; clear hK K
              refine wpAnyIn_done (by kernel_rfl) ?_ _
              exact ⟨hk2.from _, ⟨hb2, fun _ => hbs2⟩, ⟨⟨_, hv2, by simpa using hr2, by simp⟩, hbs2⟩, hB.trans hb2⟩
  case done =>
    rintro D ys W hD rfl ⟨⟨⟨v, hv, hrow, hnil⟩, _⟩, hB⟩ hK
    have hc := hv.cell
    gi_wp2
    refine ⟨by simp, .inl ⟨_, _, rfl, run_takeDeferred hK, ?_⟩⟩
    rw [down_len] at hrow hnil
    exact ⟨_, results_tmp rfl _ _ _, v, rfl, ownsRow_putObj hrow _ hK rfl, hnil, hB.trans (belowK_b (w := w) (Nat.le_refl _) W D _ _ (by simp at hD; omega) hK rfl rfl)⟩
  case stop =>
    rintro D c pre W _ _ h _
    exact h.elim

theorem calls_calls (SB SO len cap : Nat) (q : Option Addr) (Ab Ao : Nat → Nat) (C : Nat → Int) (hlen : len ≤ 100000) (w : World)
    (hS : w.cell? ⟨SB, SO + 2, none⟩ = some (.slice q len cap)) (hq : len = 0 ∨ ∃ b off, q = some ⟨b, off, none⟩ ∧ ∀ j, j < len → w.cell? ⟨b, off + j, none⟩ = some (.pointer (some ⟨Ab j, Ao j, none⟩)))
    (hC : ∀ j, j < len → w.cell? ⟨Ab j, Ao j + 1, none⟩ = some (.int .i64 (C j))) :
    Calls Try.prog 25 #[.pointer (some ⟨SB, SO, none⟩)] w fun e W' => ∃ v, e = .returned v ∧ W'.ownsRow w.heap.size 3 1 v len ((down len).map fun x => Value.int .i64 (C x.1)) ∧ (v = .slice none 0 0 ↔ len = 0) ∧ Below w.heap.size w W' :=
  callsIn_wide.1 (calls_in Fence.wide 3 trivial trivial trivial rfl (Nat.le_refl _) SB SO len cap q Ab Ao C hlen w hS hq hC)
end Go.Proofs.Yteelimkplbfiiaa
