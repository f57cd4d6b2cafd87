/- Layer 18: what was printed, as a text: the program's own function, by the library's contracts of its Builder. -/
import Derived.Test.YteelimkplbfiiaaDoorTextG
import Derived.Test.YteelimkplbfiiaaDoorShelf
import Derived.BigCall
import Derived.WalkKit
import Derived.Shelf.Strings.Builder1
import Derived.Shelf.Strconv.Itoa4
import Derived.Lib.ItoaLen
namespace Go.Proofs.YteelimkplbfiiaaDoor
open Go.RowKit Go.Shelf Go.Pg

theorem textL_len (zs : List Int) (h : ∀ z ∈ zs, -9223372036854775808 ≤ z ∧ z ≤ 9223372036854775807) : (textL zs).length ≤ 22 * zs.length := by
  induction zs with
  | nil => simp [textL]
  | cons z zs ih =>
    have h1 := Lib.itoa_length_le z (h z (by simp)).1 (h z (by simp)).2
    have h2 := ih fun y hy => h y (by simp [hy])
    unfold textL at h2 ⊢
    simp only [List.flatMap_cons, List.length_append, List.length_cons, List.length_nil] at h2 ⊢
    omega

theorem xW : Builder.Extra Tryd.prog Tryd.laysWrite_ren := { sizeBuilder := by kernel_rfl, liesBuilder := by kernel_rfl, t5 := by kernel_rfl, a5 := Tryd.isAgg5, z5 := Tryd.sizeOf5, v5 := Tryd.zeroValue5, infoByte := by kernel_rfl, cellsByte := by kernel_rfl, sizeByte := by kernel_rfl, neB5 := by decide }
theorem xS : Builder.Extra Tryd.prog Tryd.laysString_ren := { sizeBuilder := by kernel_rfl, liesBuilder := by kernel_rfl, t5 := by kernel_rfl, a5 := Tryd.isAgg5, z5 := Tryd.sizeOf5, v5 := Tryd.zeroValue5, infoByte := by kernel_rfl, cellsByte := by kernel_rfl, sizeByte := by kernel_rfl, neB5 := by decide }

theorem cFmt (n : Int) (h0 : -9223372036854775808 ≤ n) (h1 : n ≤ 9223372036854775807) (w : World) (htab : Lib.TabIs Tryd.prog w "internal/strconv.uint64pow10" .u64 Lib.pow10Tab) :
    Calls Tryd.prog 16 #[.int .i64 n, .int .i64 10] w fun e w' => e = .returned (.string ⟨(Lib.itoa n).toArray⟩) ∧ Below w.heap.size w w' := by
  refine (Any.strconv_FormatInt_10 Tryd.laysFormat n h0 h1 w htab).mono ?_
  rintro e w' ⟨he, k, os, rfl⟩
  exact ⟨he, (below_drewN w k).trans ⟨rfl, rfl, rfl, by simp [Go.Sort.grow], fun j hj => by
    simp only [Go.Sort.grow]
    exact Array.getElem?_append_left hj⟩⟩
theorem cWrite (B b : Nat) (bs : List Value) (s : ByteArray) (w : World) (h : Lib.IsBuilder 49 5 B b bs w) (hlen : bs.length + s.size ≤ 140737488355328) (hBw : B ≤ w.heap.size) :
    Calls Tryd.prog 15 #[.pointer (some ⟨b, 0, none⟩), .string s] w fun e w' => e = .returned (.tuple #[.int .i64 s.size, .nilIface]) ∧ (Lib.BuilderAt 49 5 B b (.pointer (some ⟨b, 0, none⟩)) (bs ++ Lib.strCells s) w' ∧ Below B w w') :=
  Any.Builder_WriteString Tryd.laysWrite xW B b bs s w h hlen hBw
theorem cString (B b : Nat) (l : List UInt8) (w : World) (h : Lib.IsBuilder 49 5 B b (Lib.byteCells l) w) (hBw : B ≤ w.heap.size) :
    Calls Tryd.prog 17 #[.pointer (some ⟨b, 0, none⟩)] w fun e w' => e = .returned (.string ⟨l.toArray⟩) ∧ Below B w w' :=
  Any.Builder_String_any Tryd.laysString xS B b l w h hBw

theorem isB_below {T e : TypeId} {B b : Nat} {bs : List Value} {w w' : World} (h : Lib.IsBuilder T e B b bs w) (hb : Below w.heap.size w w') : Lib.IsBuilder T e B b bs w' := by
  have key : ∀ p, Lib.BuilderAt T e B b p bs w → Lib.BuilderAt T e B b p bs w' := by
    rintro p ⟨h1, v, h2, h3, h4⟩
    have lt : ∀ (j : Nat) (o : Obj), w.heap[j]? = some o → j < w.heap.size := fun j o ho => (Array.getElem?_eq_some_iff.1 ho).1
    refine ⟨h1, v, by rw [hb.block b (lt _ _ h2)]; exact h2, ⟨h3.1, ?_⟩, h4⟩
    rcases h3.2 with hn | ⟨g, cap, cur, g1, g2, g3, g4⟩
    · exact Or.inl hn
    · exact Or.inr ⟨g, cap, cur, g1, g2, by rw [hb.block g (lt _ _ g3)]; exact g3, g4⟩
  exact h.imp (key _) (key _)

theorem strC (l : List UInt8) (s : ByteArray) : Lib.byteCells l ++ Lib.strCells s = Lib.byteCells (l ++ s.data.toList) := by
  rw [Lib.strCells_eq, Lib.byteCells_append]

set_option maxHeartbeats 4000000 in
set_option maxRecDepth 100000 in
theorem text_calls (a : Addr) (q : Option Addr) (n c : Nat) (zs : List Int) (w : World) (ha : a.spot = none) (h1 : w.cell? ⟨a.block, a.off + 1, none⟩ = some (.slice q n c)) (hlen : zs.length = n)
    (hq : ∀ j (h : j < zs.length), ∃ b, q = some b ∧ b.spot = none ∧ w.cell? ⟨b.block, b.off + j, none⟩ = some (.int .i64 zs[j])) (hr : ∀ z ∈ zs, -9223372036854775808 ≤ z ∧ z ≤ 9223372036854775807) (hsz : 22 * n ≤ 140737488355328)
    (htab : ∀ w', Below w.heap.size w w' → Lib.TabIs Tryd.prog w' "internal/strconv.uint64pow10" .u64 Lib.pow10Tab) :
    Calls Tryd.prog 13 #[.pointer (some a)] w fun e w' => e = .returned (.string ⟨(textL zs).toArray⟩) ∧ Below w.heap.size w w' := by
  obtain ⟨B, O, sp⟩ := a
  simp only at ha h1
  subst ha
  subst hlen
  have cellLt : ∀ (W : World) (p : Addr) v, W.cell? p = some v → p.block < W.heap.size := by
    intro W p v h
    rcases Nat.lt_or_ge p.block W.heap.size with h' | h'
    · exact h'
    · simp [World.cell?, Array.getElem?_eq_none h'] at h
  have hBlt := cellLt _ _ _ h1
  have h1' : ∀ o, (w.alloc o).cell? ⟨B, O + 1, none⟩ = some (.slice q zs.length c) := fun o => (World.cell?_alloc_lt w o _ hBlt).trans h1
  have HB0 : Hid (Lib.IsBuilder 49 5 w.heap.size w.heap.size (Lib.byteCells (textL (zs.take 0))) (w.alloc (.cells #[.pointer none, .slice none 0 0] 49))) := Lib.fresh_isBuilder 49 5 w
  have HW0 : Hid (Below w.heap.size w (w.alloc (.cells #[.pointer none, .slice none 0 0] 49))) := (Below.refl w.heap.size w).alloc (Nat.le_refl _) _
  have HR : Hid (∀ z ∈ zs, -9223372036854775808 ≤ z ∧ z ≤ 9223372036854775807) := hr
  have HT : Hid (∀ w', Below w.heap.size w w' → Lib.TabIs Tryd.prog w' "internal/strconv.uint64pow10" .u64 Lib.pow10Tab) := htab
  have HQ : Hid (∀ j (h : j < zs.length), ∃ b, q = some b ∧ b.spot = none ∧ w.cell? ⟨b.block, b.off + j, none⟩ = some (.int .i64 zs[j])) := hq
  clear hr htab hq
  go_enter Tryd.func13, Tryd.ntmps13
  go_wp2
  go_loopw [11] (fun i wr => ∃ k : Nat, k ≤ zs.length ∧ i = .int .i64 k ∧ Hid (Lib.IsBuilder 49 5 w.heap.size w.heap.size (Lib.byteCells (textL (zs.take k))) wr) ∧ Hid (Below w.heap.size w wr)) (fun i _ => zs.length - (intOf i).toNat)
  case atStart => exact ⟨0, Nat.zero_le _, rfl, HB0, HW0⟩
  case round =>
    obtain ⟨k, hk, rfl, HB, HW⟩ := hrel
    by_cases hlt : k < zs.length
    · obtain ⟨⟨qb, qo, qs⟩, hq1, hq2, hq3⟩ := HQ.out k hlt
      simp only at hq2 hq3
      subst hq2
      subst hq1
      have hc : wr.cell? ⟨qb, qo + k, none⟩ = some (.int .i64 zs[k]) := (HW.out.cell (cellLt _ _ _ hq3)).trans hq3
      have hz := HR.out _ (List.getElem_mem hlt)
      have hlen : (textL (zs.take k)).length + (Lib.itoa zs[k]).length + 1 ≤ 140737488355328 := by
        have h1 := textL_len (zs.take k) fun z hz => HR.out z (List.mem_of_mem_take hz)
        have h2 := Lib.itoa_length_le zs[k] hz.1 hz.2
        have h3 : (zs.take k).length = k := by rw [List.length_take]; omega
        omega
      go_wp2_with fail
      refine (cFmt zs[k] hz.1 hz.2 wr (HT.out wr HW.out)).mono ?_
      rintro e w2 ⟨rfl, hb2⟩
      have H2 : Hid (Lib.IsBuilder 49 5 w.heap.size w.heap.size (Lib.byteCells (textL (zs.take k))) w2) := isB_below HB.out hb2
      have HW2 : Hid (Below w.heap.size w w2) := HW.out.trans ⟨hb2.os, hb2.tape, hb2.output, hb2.size, fun j hj => hb2.block j (Nat.lt_of_lt_of_le hj HW.out.size)⟩
      clear hb2
      go_wp2_with fail
      have hsd : ((⟨(Lib.itoa zs[k]).toArray⟩ : ByteArray) ++ ⟨#[10]⟩).data.toList = Lib.itoa zs[k] ++ [10] := by simp
      have hss : ((⟨(Lib.itoa zs[k]).toArray⟩ : ByteArray) ++ ⟨#[10]⟩).size = (Lib.itoa zs[k]).length + 1 := by
        rw [Lib.size_eq, hsd]; simp
      generalize hsg : ((⟨(Lib.itoa zs[k]).toArray⟩ : ByteArray) ++ ⟨#[10]⟩) = sg at hsd hss ⊢
      have Hsd : Hid (sg.data.toList = Lib.itoa zs[k] ++ [10]) := hsd
      clear hsd hsg
      have hBw : w.heap.size ≤ w2.heap.size := HW2.out.size
      refine (cWrite w.heap.size w.heap.size _ sg w2 H2.out (by rw [Lib.byteCells_length, hss]; omega) hBw).mono ?_
      rintro e w3 ⟨rfl, h3, hb3⟩
      have H3 : Hid (Lib.IsBuilder 49 5 w.heap.size w.heap.size (Lib.byteCells (textL (zs.take (k + 1)))) w3) := by
        rw [textL_take zs k hlt, ← Hsd.out, ← strC]
        exact Or.inr h3
      have HW3 : Hid (Below w.heap.size w w3) := HW2.out.trans hb3
      clear h3 hb3 hss
      go_wp2
      exact ⟨⟨k + 1, by omega, by first | rfl | simp, H3, HW3⟩, by simp [intOf]; omega⟩
    · have hke : k = zs.length := by omega
      subst hke
      have HB' := HB.out
      rw [List.take_length] at HB'
      have HB2 : Hid (Lib.IsBuilder 49 5 w.heap.size w.heap.size (Lib.byteCells (textL zs)) wr) := HB'
      clear HB'
      have hBw : w.heap.size ≤ wr.heap.size := HW.out.size
      go_wp2_with fail
      refine (cString w.heap.size w.heap.size (textL zs) wr HB2.out hBw).mono ?_
      rintro e w3 ⟨rfl, hb3⟩
      have Hb3 : Hid (Below w.heap.size w w3) := HW.out.trans hb3
      clear hb3
      go_wp2
      go_ret
      exact ⟨rfl, Hb3.out⟩

theorem ar_spot {ι : Inj} {B : Nat} {a a' : Addr} (h : AR ι B a a') : a'.spot = none := by
  cases h with
  | old _ hs => exact hs
  | new _ _ => rfl
theorem row_sound {ι : Inj} {W0 W : World} {σ : AHeap} {b b' : Addr} {n : Nat} {vs : List Value} {zs : List Int} (R : Rel ι W0 σ W) (ha : AR ι W0.heap.size b b') (h : σ.rdN b n = some vs) (hz : intsL vs = some zs) :
    zs.length = n ∧ b'.spot = none ∧ ∀ j (hj : j < zs.length), W.cell? ⟨b'.block, b'.off + j, none⟩ = some (.int .i64 zs[j]) := by
  obtain ⟨h1, vs', h2, h3, h4⟩ := rdN_sound R ha h
  obtain ⟨rfl, _⟩ := intsL_some hz
  have hl : zs.length = n := by simpa using h1
  refine ⟨hl, h3, fun j hj => ?_⟩
  have hlt : j < vs'.length := by have := h2.1; simp at this; omega
  have e1 : (zs.map (Value.int .i64))[j]? = some (.int .i64 zs[j]) := by simp [hj]
  have hv := h2.2 j _ _ e1 (List.getElem?_eq_getElem hlt)
  generalize hx : vs'[j] = x at hv
  have hx' : vs'[j]? = some x := by rw [List.getElem?_eq_getElem hlt, hx]
  cases hv
  exact h4 j _ hx'

/-- Text, as what it computes on the heap. -/
theorem text_ov {W0 : World} (hn : NoNum Tryd.prog) (htab : Lib.TabIs Tryd.prog W0 "internal/strconv.uint64pow10" .u64 Lib.pow10Tab) {g : Nat} (hg : Tryd.prog.globalNamed "internal/strconv.uint64pow10" = some g) :
    ∀ args σ v σ', textG args σ = some (v, σ') → ∀ (ι : Inj) (W : World) (args' : Array Value), Rel ι W0 σ W → VRL ι W0.heap.size args args'.toList →
    (callFunc 13 args').run Tryd.prog W = .ok (.enter 13 args') W ∧ Calls Tryd.prog 13 args' W fun e w' => ∃ v' κ, e = .returned v' ∧ ι.le κ ∧ VR κ W0.heap.size v v' ∧ Rel κ W0 σ' w' := by
  intro args σ v σ' h ι W args' R hA
  refine ⟨enter_run hn Tryd.func13 (by rfl) args' W, ?_⟩
  unfold textG at h
  split at h
  · rename_i a
    split at h
    · rename_i p n c hrd
      split at h
      · rename_i zs hz
        obtain ⟨hc, hvv⟩ := bif_some h
        simp only [decide_eq_true_eq] at hc
        simp only [Prod.mk.injEq] at hvv
        obtain ⟨rfl, rfl⟩ := hvv
        -- the argument
        obtain ⟨l⟩ := args'
        simp only at hA
        obtain ⟨x, rfl⟩ : ∃ x, l = [x] := by
          have := hA.1
          match l, this with
          | [y], _ => exact ⟨y, rfl⟩
        have h0 := hA.2 0 _ _ rfl rfl
        cases h0 with
        | ptr ha =>
          rename_i a'
          -- the slice
          obtain ⟨_, vs', hvl, hsp, hcl⟩ := rdN_sound R (ha.add 1) hrd
          obtain ⟨y, rfl⟩ : ∃ y, vs' = [y] := by
            have := hvl.1
            match vs', this with
            | [y], _ => exact ⟨y, rfl⟩
          have hy := hvl.2 0 _ _ rfl rfl
          have hy1 := hcl 0 y rfl
          have hs0 := ar_spot ha
          have hy2 : W.cell? ⟨a'.block, a'.off + 1, none⟩ = some y := by
            have : a'.add 1 = ⟨a'.block, a'.off + 1, none⟩ := by
              obtain ⟨b1, b2, b3⟩ := a'
              simp only at hs0
              subst hs0
              rfl
            rw [this] at hy1
            exact hy1
          have key : ∃ q c', y = .slice q n c' ∧ zs.length = n ∧ (∀ z ∈ zs, -9223372036854775808 ≤ z ∧ z ≤ 9223372036854775807) ∧ ∀ j (hj : j < zs.length), ∃ b, q = some b ∧ b.spot = none ∧ W.cell? ⟨b.block, b.off + j, none⟩ = some (.int .i64 zs[j]) := by
            unfold textR at hz
            split at hz
            · rename_i vs hvs
              unfold rowL at hvs
              obtain ⟨hvz, hrg⟩ := intsL_some hz
              by_cases hn0 : n = 0
              · subst hn0
                rw [show Nat.beq 0 0 = true from rfl] at hvs
                simp only [cond_true, Option.some.injEq] at hvs
                subst hvs
                have hz0 : zs = [] := List.map_eq_nil_iff.1 hvz.symm
                subst hz0
                cases hy <;> exact ⟨_, _, rfl, rfl, by simp, fun j hj => by simp at hj⟩
              · have hb0 : Nat.beq n 0 = false := by
                  cases hb : Nat.beq n 0 with
                  | false => rfl
                  | true => exact absurd (Nat.eq_of_beq_eq_true hb) hn0
                rw [hb0] at hvs
                simp only [cond_false] at hvs
                split at hvs
                · rename_i b
                  cases hy with
                  | sliceZero _ _ => exact absurd rfl hn0
                  | sliceOld =>
                    rename_i h2 h3
                    obtain ⟨g1, g2, g3⟩ := row_sound R (AR.old h2 h3) hvs hz
                    exact ⟨_, _, rfl, g1, hrg, fun j hj => ⟨_, rfl, g2, g3 j hj⟩⟩
                  | sliceNew h1 h2 h3 h4 =>
                    obtain ⟨g1, g2, g3⟩ := row_sound R (AR.new h1 h2) hvs hz
                    exact ⟨_, _, rfl, g1, hrg, fun j hj => ⟨_, rfl, g2, g3 j hj⟩⟩
                · cases hvs
            · cases hz
          obtain ⟨q, c', rfl, hlen, hrg, hcells⟩ := key
          refine (text_calls a' q n c' zs W hs0 hy2 hlen hcells hrg hc (fun w' hw => TabIs_below hg htab (R.below.trans ⟨hw.os, hw.tape, hw.output, hw.size, fun j hj => hw.block j (Nat.lt_of_lt_of_le hj R.below.size)⟩))).mono ?_
          rintro e W' ⟨he, hb⟩
          exact ⟨_, ι, he, Inj.le_refl _, .string _, R.more hb⟩
      · cases h
    · cases h
  · cases h
end Go.Proofs.YteelimkplbfiiaaDoor
