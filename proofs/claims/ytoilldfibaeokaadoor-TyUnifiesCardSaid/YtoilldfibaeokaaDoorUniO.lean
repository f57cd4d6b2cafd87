/- Layer 5: Unify, answered by its contract. -/
import Derived.Test.YtoilldfibaeokaaDoorUniJ
import Derived.Test.YtoilldfibaeokaaDoorUniH
namespace Go.Proofs.YtoilldfibaeokaaDoor
open Go.RowKit Go.Pg Go.Maps Go.WideShapes

def noOv : Ov := fun _ => none
theorem noOv_T : OvT noOv := fun _ _ _ _ => rfl

section
variable {W0 W : World} {ι : Inj} {σ : AHeap}
theorem local2 (R : Rel ι W0 σ W) (oa ob : Obj) : Rel (keeping ι fun c o => ι.keep c o ∨ (c = W.heap.size ∧ o = oa) ∨ (c = W.heap.size + 1 ∧ o = ob)) W0 σ ((W.alloc oa).alloc ob) := by
  have hb : Below W.heap.size W ((W.alloc oa).alloc ob) := ((Below.refl _ _).alloc (Nat.le_refl _) _).alloc (by simp) _
  have R1 := R.more hb
  refine R1.keepK _ fun c o h => ?_
  rcases h with h | ⟨rfl, rfl⟩ | ⟨rfl, rfl⟩
  · exact R1.kept c o h
  · refine ⟨?_, fun j v i hi e => by have := (R.dom j v i hi).2.2; omega⟩
    rw [(Go.MapKept.heap_alloc (W.alloc o) _).2 _ (by simp)]
    exact (Go.MapKept.heap_alloc W _).1
  · refine ⟨?_, fun j v i hi e => by have := (R.dom j v i hi).2.2; omega⟩
    have := (Go.MapKept.heap_alloc (W.alloc oa) o).1
    simpa using this
theorem local2_le (oa ob : Obj) : ι.le (keeping ι fun c o => ι.keep c o ∨ (c = W.heap.size ∧ o = oa) ∨ (c = W.heap.size + 1 ∧ o = ob)) := ⟨keeping_lem, fun _ h => h, fun _ _ h => .inl h⟩

/-- A call of a function whose weakest precondition is known. -/
theorem wpf_call (hn : NoNum Tryd.prog) (hm : Tryd.prog.follows .mixedOrders = true) (hG : Tryd.prog.globals.size ≤ W0.heap.size) {f : FuncId} {args : List Value} {args' : Array Value} {Q : Value → AHeap → Prop}
    (h : WpF PROG noOv f args σ Q) (R : Rel ι W0 σ W) (hA : VRL ι W0.heap.size args args'.toList) :
    Calls Tryd.prog f args' W fun e w' => ∃ v σ1 v' κ, Q v σ1 ∧ e = .returned v' ∧ ι.le κ ∧ VR κ W0.heap.size v v' ∧ Rel κ W0 σ1 w' := by
  obtain ⟨v, σ1, hE, hQ⟩ := h
  refine (call_sound hn hm hG OvOK.none hE R hA).mono ?_
  rintro e w' ⟨v', κ, h1, h2, h3, h4⟩
  exact ⟨v, σ1, v', κ, hQ, h1, h2, h3, h4⟩
/-- A call that only reads and answers a truth. -/
theorem ro_call (hn : NoNum Tryd.prog) (hm : Tryd.prog.follows .mixedOrders = true) (hG : Tryd.prog.globals.size ≤ W0.heap.size) {f : FuncId} {args : List Value} {args' : Array Value} {b : Bool}
    (h : WpF PROG noOv f args σ fun v σ' => v = .bool b ∧ Frm σ σ' NoB) (R : Rel ι W0 σ W) (hA : VRL ι W0.heap.size args args'.toList) :
    Calls Tryd.prog f args' W fun e w' => e = .returned (.bool b) ∧ Rel ι W0 σ w' ∧ ∀ c o, ι.keep c o → w'.heap[c]? = some o := by
  refine (wpf_call hn hm hG h R hA).mono ?_
  rintro e w' ⟨v, σ1, v', κ, ⟨rfl, hF⟩, rfl, h2, h3, h4⟩
  cases h3
  exact ⟨rfl, R.forget h2 h4 hF, fun c o h => (h4.kept c o (h2.2.2 c o h)).1⟩

theorem ranging_call (hn : NoNum Tryd.prog) (hm : Tryd.prog.follows .mixedOrders = true) (hG : Tryd.prog.globals.size ≤ W0.heap.size) {κ0 : Inj} {b r g M I : Nat} {f : FuncId} {args : List Value} {args' : Array Value} {u : Bool}
    (h : Ranging W0 κ0 σ b r g M I W) (hw : WpF PROG noOv f args σ fun v σ' => v = .bool u ∧ Frm σ σ' NoB) (hA : ∀ κ (i : Info), κ b 0 = some i → i.c = g → i.lo = 0 → VRL κ W0.heap.size args args'.toList) :
    Calls Tryd.prog f args' W fun e w' => e = .returned (.bool u) ∧ Ranging W0 κ0 σ b r g M I w' ∧ w'.heap[M]? = W.heap[M]? ∧ w'.heap[I]? = W.heap[I]? := by
  obtain ⟨κ, i, i2, oM, h1, R, h3, h4, h5, h6, h7, h8, h9, h10, h11, h12, h13, h14⟩ := h
  obtain ⟨oI, hoI⟩ : ∃ o, W.heap[I]? = some o := ⟨_, Array.getElem?_eq_getElem h11⟩
  have R' : Rel (keeping κ fun c o => κ.keep c o ∨ (c = I ∧ o = oI)) W0 σ W := R.keepK _ fun c o h => by
    rcases h with h | ⟨rfl, rfl⟩
    · exact R.kept c o h
    · exact ⟨hoI, fun j v i hi e => absurd e (h12 j v i hi)⟩
  refine (ro_call hn hm hG hw R' (hA _ i h3 h4 h5)).mono ?_
  rintro e w' ⟨he, R2, hk⟩
  have hM : w'.heap[M]? = some oM := hk M oM (.inl h8)
  have hI : w'.heap[I]? = some oI := hk I oI (.inr ⟨rfl, rfl⟩)
  have R3 : Rel κ W0 σ w' := R2.keepK κ.keep fun c o h => R2.kept c o (.inl h)
  exact ⟨he, ⟨κ, i, i2, oM, h1, R3, h3, h4, h5, h6, h7, h8, h9, h10, (Array.getElem?_eq_some_iff.1 hI).1, h12, h13, h14⟩, by rw [hM, (R.kept _ _ h8).1], by rw [hI, hoI]⟩

/-- The new struct of what variables stand for stands there, as g. -/
def At (W0 : World) (κ0 : Inj) (σ : AHeap) (b g : Nat) (w : World) : Prop := ∃ (κ : Inj) (i : Info), κ0.le κ ∧ Rel κ W0 σ w ∧ κ b 0 = some i ∧ i.c = g ∧ i.lo = 0

theorem ty_inv {k : Nat} {cs : Array Value} {t : AT} {v' : Value} (h : readT σ k cs.toList = some t) (hv : VR ι W0.heap.size (.agg cs) v') : AFull σ t ∧ Value.agg cs = Value.agg t.c.toArray ∧ ∃ a1 a2 a3 a4 a5 a6, v' = tyV (a1, a2, a3, a4, a5, a6) := by
  obtain ⟨h1, h2⟩ := readT_ok h
  refine ⟨h2, by rw [h1], ?_⟩
  have hi : isTy (.agg cs) = true := by
    obtain ⟨p, cap, hc⟩ := h2.cells
    rw [h1] at hc
    unfold isTy
    simp only [hc, tcells]
  obtain ⟨a1, a2, a3, a4, a5, a6, e⟩ := isTy_VR hi hv
  exact ⟨a1, a2, a3, a4, a5, a6, e⟩

theorem ptr_new {κ : Inj} {b : Nat} {v' : Value} (h : VR κ W0.heap.size (.pointer (some ⟨b, 0, some 0⟩)) v') : ∃ i : Info, v' = .pointer (some ⟨i.c, 0, none⟩) ∧ κ b 0 = some i ∧ i.lo = 0 := by
  obtain ⟨a', rfl, ha⟩ := ptr_inv h
  cases ha with
  | old h1 h2 => cases h2
  | new h1 h2 =>
    have h0 := Nat.le_zero.1 h2
    exact ⟨_, by rw [h0], h1, h0⟩
theorem vr_new {κ : Inj} {b : Nat} {i : Info} (h : κ b 0 = some i) (h0 : i.lo = 0) : VR κ W0.heap.size (.pointer (some ⟨b, 0, some 0⟩)) (.pointer (some ⟨i.c, 0, none⟩)) := by
  have := VR.ptr (B := W0.heap.size) (AR.new (off := 0) (v := 0) h (by omega))
  rw [h0] at this
  exact this

theorem At.cell {κ : Inj} {b r g : Nat} {i : Info} {nx : Int} {w : World} (R : Rel κ W0 σ w) (hs : St σ b [.int .i64 nx, .map (some r)]) (hi : κ b 0 = some i) (hc : i.c = g) (h0 : i.lo = 0) : ∃ i2 : Info, κ r 0 = some i2 ∧ w.cell? ⟨g, 1, none⟩ = some (.map (some i2.c)) := by
  have ha : AR κ W0.heap.size ⟨b, 0, some 0⟩ ⟨i.c, 0, none⟩ := by
    have := AR.new (B := W0.heap.size) (off := 0) (v := 0) hi (by omega)
    rw [h0] at this
    exact this
  have hrd : σ.rdN ⟨b, 0, some 0⟩ 2 = some [.int .i64 nx, .map (some r)] := by
    have := hs.ldN (off := 0) (k := 2) (by simp)
    unfold ldN at this
    split at this
    · rename_i vs hvs
      simp only [Option.some.injEq, Prod.mk.injEq, Value.agg.injEq, and_true] at this
      rw [hvs]
      have h2 := congrArg Array.toList this
      simpa using h2
    · cases this
  obtain ⟨_, vs', hvl, _, hcl⟩ := rdN_sound R ha hrd
  obtain ⟨y0, y1, rfl⟩ : ∃ y0 y1, vs' = [y0, y1] := by
    have := hvl.1
    match vs', this with
    | [y0, y1], _ => exact ⟨y0, y1, rfl⟩
  obtain ⟨i2, rfl, hi2⟩ := (show VR κ W0.heap.size (.map (some r)) y1 from hvl.2 1 _ _ rfl rfl).map_inv
  have hc1 := hcl 1 _ rfl
  subst hc
  exact ⟨i2, hi2, by simpa [Addr.add] using hc1⟩

theorem ranging_start {κ0 : Inj} {b r g M : Nat} {nx : Int} {es : List (Value × Value)} {w w0 : World} (h : At W0 κ0 σ b g w) (hs : St σ b [.int .i64 nx, .map (some r)]) (hm : σ.get r = some (.map es)) (hM : w.cell? ⟨g, 1, none⟩ = some (.map (some M))) (hg : w.grownBy w0 none) (hsz : w0.heap.size = w.heap.size + 1) :
    Ranging W0 κ0 (σ.put r (.rom es)) b r g M w.heap.size w0 := by
  obtain ⟨κ, i, k1, k2, k3, k4, k5⟩ := h
  obtain ⟨i2, q1, q2⟩ := At.cell k2 hs k3 k4 k5
  rw [hM] at q2
  simp only [Option.some.injEq, Value.map.injEq] at q2
  subst q2
  obtain ⟨i2', q3, ents, clock, q4, _⟩ := k2.map r es _ _ (.inl hm) q1
  rw [q1] at q3
  cases q3
  have R1 := k2.toRom hm
  have hd := k2.dom _ _ _ q1
  have R2 : Rel (keeping κ fun c o => κ.keep c o ∨ (c = i2.c ∧ o = .map ents clock)) W0 (σ.put r (.rom es)) w := R1.keepK _ fun c o h => by
    rcases h with h | ⟨rfl, rfl⟩
    · exact R1.kept c o h
    · refine ⟨q4, fun j v i' hi' e => ?_⟩
      have := k2.inj _ _ _ _ _ _ hi' q1 e
      subst this
      exact ⟨es, get_put_same _ _ _⟩
  have R3 := R2.more (W' := w0) ⟨hg.os, hg.tape, hg.output, hg.size, fun k hk => hg.block k hk (by simp)⟩
  refine ⟨keeping κ fun c o => κ.keep c o ∨ (c = i2.c ∧ o = .map ents clock), i, i2, .map ents clock, ⟨k1.1, k1.2.1, fun c o h => Or.inl (k1.2.2 c o h)⟩, R3, k3, k4, k5, q1, rfl, Or.inr ⟨rfl, rfl⟩, hd.2.2, k2.below.size, by omega, fun j v i' hi' e => by have := (k2.dom _ _ _ hi').2.2; omega, fun o ho => ?_, fun o ho => ?_⟩
  · have := R2.kept_lt ho
    omega
  · obtain ⟨es', he⟩ := (k2.kept _ _ (k1.2.2 _ _ ho)).2 _ _ _ q1 rfl
    rw [hm] at he
    cases he

theorem wr_cell {a : Addr} {SB SO : Nat} {v v' : Value} {σ' : AHeap} (R : Rel ι W0 σ W) (ha : AR ι W0.heap.size a ⟨SB, SO, none⟩) (h : σ.wrN a [v] = some σ') (hr : VR ι W0.heap.size v v') :
    (∃ y, W.cell? ⟨SB, SO, none⟩ = some y) ∧ W.frozen? ⟨SB, SO, none⟩ = false ∧ Rel ι W0 σ' (W.setCell ⟨SB, SO, none⟩ v') := by
  unfold AHeap.wrN at h
  generalize he : (⟨SB, SO, none⟩ : Addr) = a' at ha
  cases ha with
  | old h1 h2 => rw [h2] at h; cases h
  | @new b off v1 i h1 h2 =>
    simp only [Addr.mk.injEq, and_true] at he
    obtain ⟨rfl, rfl⟩ := he
    simp only at h
    split at h
    · rename_i B hB
      cases hc : (Nat.beq (v1 / 64 + 1) B.his.length && Nat.ble (off + [v].length) B.cells.length && [v].all one) with
      | false => rw [hc] at h; cases h
      | true =>
        rw [hc] at h
        simp only [cond_true, Option.some.injEq] at h
        subst h
        simp only [Bool.and_eq_true, Nat.ble_eq, Nat.beq_eq] at hc
        obtain ⟨e1, e2, e3⟩ := setCells_rel (vs' := [v']) R hB h1 hc.1.1 h2 hc.1.2 hc.2 (.cons hr .nil)
        have e1 := e1 0 (by simp)
        have e2 := e2 0 (by simp)
        exact ⟨Option.isSome_iff_exists.1 (by simpa using e1), by simpa using e2, e3⟩
    · cases h

theorem readS_read {σ : AHeap} {k : Nat} : ∀ {es : List (Value × Value)} {S : SubL}, readS σ k es = some S → ∀ p ∈ S, readT σ k p.2.c = some p.2
  | [], S, h, p, hp => by
    cases h
    cases hp
  | (a, b) :: r, S, h, p, hp => by
    unfold readS at h
    split at h
    · split at h
      · rename_i cs
        split at h
        · rename_i t ht
          split at h
          · rename_i S' hS
            cases h
            obtain ⟨e1, e2⟩ := readT_ok ht
            rcases List.mem_cons.1 hp with rfl | hp
            · simp only [e1]
              exact ht
            · exact readS_read hS p hp
          · cases h
        · cases h
      · cases h
    · cases h

theorem varT_hung (n : Int) : Hung ι W0.heap.size σ (varT n) := by
  refine ⟨⟨1, rfl⟩, .agg #[.int .i64 7, .string ⟨#[]⟩, .int .i64 n, .slice none 0 0], ?_⟩
  exact .agg rfl fun j v v' a b => by
    match j, a, b with
    | 0, a, b => cases a; cases b; exact .int _ _
    | 1, a, b => cases a; cases b; exact .string _
    | 2, a, b => cases a; cases b; exact .int _ _
    | 3, a, b => cases a; cases b; exact .sliceNil _ _

theorem ents_back {κ κ0 : Inj} {B : Nat} {S : SubL} {ents : Array MapEntry} {clock : Nat} (hl : κ0.lem κ) (hP : ∀ p ∈ S, ∃ v0, VR κ0 B (.agg p.2.c.toArray) v0) (h : EntsOK κ B (esOf S) ents clock) : EntsOK κ0 B (esOf S) ents clock := by
  obtain ⟨h1, es', h2, h3, h4⟩ := h
  refine ⟨h1, es', h2, h3, h4.1, fun j k v e a b => ?_⟩
  obtain ⟨q1, q2⟩ := h4.2 j k v e a b
  refine ⟨q1, ?_⟩
  obtain ⟨p, hp, hpe⟩ := List.mem_map.1 (h2.mem_iff.1 (List.mem_of_getElem? a))
  simp only [Prod.mk.injEq] at hpe
  obtain ⟨v0, hv0⟩ := hP p hp
  rw [hpe.2] at hv0
  exact hv0.back hl q2

theorem unify_ov (hn : NoNum Tryd.prog) (hm : Tryd.prog.follows .mixedOrders = true) (hG : Tryd.prog.globals.size ≤ W0.heap.size) :
    ∀ args σ v σ', unifyG args σ = some (v, σ') → ∀ (ι : Inj) (W : World) (args' : Array Value), Rel ι W0 σ W → VRL ι W0.heap.size args args'.toList →
    (callFunc 12 args').run Tryd.prog W = .ok (.enter 12 args') W ∧ Calls Tryd.prog 12 args' W fun e w' => ∃ v' κ, e = .returned v' ∧ ι.le κ ∧ VR κ W0.heap.size v v' ∧ Rel κ W0 σ' w' := by
  intro args σ v σ' h ι W args' R hA
  refine ⟨enter_run hn Tryd.func12 (by rfl) args' W, ?_⟩
  unfold unifyG at h
  split at h
  case h_2 => cases h
  rename_i a ca cb
  split at h
  case h_2 => cases h
  rename_i x hx
  split at h
  case h_2 => cases h
  rename_i y hy
  obtain ⟨l⟩ := args'
  simp only at hA
  obtain ⟨p', va', vb', rfl⟩ : ∃ p q r, l = [p, q, r] := by
    have := hA.1
    match l, this with
    | [p, q, r], _ => exact ⟨p, q, r, rfl⟩
  obtain ⟨a', rfl, ha⟩ := ptr_inv (hA.2 0 _ _ rfl rfl)
  have hva : VR ι W0.heap.size (.agg ca) va' := hA.2 1 _ _ rfl rfl
  have hvb : VR ι W0.heap.size (.agg cb) vb' := hA.2 2 _ _ rfl rfl
  obtain ⟨hxf, hxc, a1, a2, a3, a4, a5, a6, rfl⟩ := ty_inv hx hva
  obtain ⟨hyf, hyc, b1, b2, b3, b4, b5, b6, rfl⟩ := ty_inv hy hvb
  have hsp := ar_spot ha
  obtain ⟨SB, SO, sp⟩ := a'
  simp only at hsp
  subst hsp
  have R2 := local2 R (tyO (a1, a2, a3, a4, a5, a6)) (tyO (b1, b2, b3, b4, b5, b6))
  have hle0 := local2_le (W := W) (ι := ι) (tyO (a1, a2, a3, a4, a5, a6)) (tyO (b1, b2, b3, b4, b5, b6))
  generalize hk0 : (keeping ι fun c o => ι.keep c o ∨ (c = W.heap.size ∧ o = tyO (a1, a2, a3, a4, a5, a6)) ∨ (c = W.heap.size + 1 ∧ o = tyO (b1, b2, b3, b4, b5, b6))) = κ0 at R2 hle0
  have kA : κ0.keep W.heap.size (tyO (a1, a2, a3, a4, a5, a6)) := by rw [← hk0]; exact .inr (.inl ⟨rfl, rfl⟩)
  have kB : κ0.keep (W.heap.size + 1) (tyO (b1, b2, b3, b4, b5, b6)) := by rw [← hk0]; exact .inr (.inr ⟨rfl, rfl⟩)
  have hva0 := hva.monoM hle0.1
  have hvb0 := hvb.monoM hle0.1
  have hga : ∀ w, Rel κ0 W0 σ w → Calls Tryd.prog 15 #[tyV (a1, a2, a3, a4, a5, a6)] w fun e w' => e = .returned (.bool (goodM x)) ∧ Rel κ0 W0 σ w' := fun w Rw => by
    have hw := wp_Good noOv_T hxf
    rw [← hxc] at hw
    refine (ro_call hn hm hG hw Rw (.cons hva0 .nil)).mono ?_
    rintro e w' ⟨h1, h2, _⟩
    exact ⟨h1, h2⟩
  have hgb : ∀ w, Rel κ0 W0 σ w → Calls Tryd.prog 15 #[tyV (b1, b2, b3, b4, b5, b6)] w fun e w' => e = .returned (.bool (goodM y)) ∧ Rel κ0 W0 σ w' := fun w Rw => by
    have hw := wp_Good noOv_T hyf
    rw [← hyc] at hw
    refine (ro_call hn hm hG hw Rw (.cons hvb0 .nil)).mono ?_
    rintro e w' ⟨h1, h2, _⟩
    exact ⟨h1, h2⟩
  have c0 : ∀ w', Rel κ0 W0 σ w' → Loc w' W.heap.size (a1, a2, a3, a4, a5, a6) ∧ Loc w' (W.heap.size + 1) (b1, b2, b3, b4, b5, b6) := fun w' Rw => ⟨Loc.of (Rw.kept _ _ kA).1, Loc.of (Rw.kept _ _ kB).1⟩
  cases hgd : (goodM x && goodM y) with
  | false =>
    rw [hgd] at h
    simp only [cond_false, Option.some.injEq, Prod.mk.injEq] at h
    obtain ⟨rfl, rfl⟩ := h
    refine unify_any SB SO a1 a2 a3 a4 a5 a6 b1 b2 b3 b4 b5 b6 W _ (goodM x) (goodM y) 0 (Rel κ0 W0 σ) (fun _ _ => False) (fun _ _ => False) R2 hga hgb c0 (fun _ w Rw => ⟨_, κ0, rfl, hle0, .int _ _, Rw⟩)
      (fun h1 h2 => by rw [h1, h2] at hgd; cases hgd) (fun _ _ h => h.elim) (fun _ _ h => h.elim) (fun _ _ _ h => h.elim) (fun _ => false) (fun _ => true) (fun _ _ _ h => h.elim) (fun _ _ _ _ => False) (fun _ _ _ _ _ h => h.elim) (fun _ _ _ _ _ h => h.elim) (fun _ _ _ _ _ h => h.elim) (fun _ _ _ _ _ h => h.elim) (fun _ _ _ _ h => h.elim)
  | true =>
  rw [hgd] at h
  simp only [cond_true] at h
  split at h
  case h_2 => cases h
  rename_i nx r hrd
  split at h
  case h_2 => cases h
  rename_i es hes
  replace h := bif_opt h
  obtain ⟨hck, h⟩ := h
  split at h
  case h_2 => cases h
  rename_i S hS
  obtain ⟨heS, hfS⟩ := readS_ok hS
  split at h
  case h_2 => cases h
  rename_i e S' hone
  -- the copy
  have hcop : copiedG [.pointer (some a)] σ = some (.pointer (some ⟨σ.n + 1, 0, some 0⟩), (σ.push (.map es)).newBlk [.int .i64 nx, .map (some σ.n)] 0) := by
    unfold copiedG
    simp only [hrd, hes, hck, cond_true]
  generalize hsc : (σ.push (.map es)).newBlk [.int .i64 nx, .map (some σ.n)] 0 = σc at hcop
  have hF0 : Frm σ σc NoB := by
    rw [← hsc]
    refine Frm.seq (σ' := σ.push (.map es)) ⟨Nat.le_succ _, rfl, fun j hj _ => get_push_lt _ _ hj, fun f j hj => ?_⟩ (Frm.new _ _ _ _)
    have hj' : σ.n + 1 ≤ j := hj
    rw [AHeap.get_push, if_neg (by omega)]
    exact f j (by omega)
  have hSW : SubW σc (σ.n + 1) σ.n nx S := by
    refine SubW.of ?_ ?_ ?_ fun p hp => (hfS p hp).frm hF0
    · rw [← hsc]
      exact St.new (σ.push (.map es)) _
    · rw [← hsc]
      simp [AHeap.newBlk, AHeap.push]
      omega
    · rw [← hsc, newBlk_get _ _ _ (by simp), get_push_same, heS]
  obtain ⟨v4, σ4, hEv, rfl, hF4, hSW4⟩ := wp_one noOv_T UF σc S x y e S' hSW (hxf.frm hF0) (hyf.frm hF0) hone
  have hF04 : Frm σ σ4 NoB := hF0.fresh hF4 fun j hj h => by omega
  have hC : ∀ w, Rel κ0 W0 σ w → Calls Tryd.prog 33 #[.pointer (some ⟨SB, SO, none⟩)] w fun e w' => ∃ g, e = .returned (.pointer (some ⟨g, 0, none⟩)) ∧ At W0 κ0 σc (σ.n + 1) g w' := fun w Rw => by
    refine (copied_ov hn _ _ _ _ hcop κ0 w _ Rw (.cons (VR.monoM hle0.1 (.ptr ha)) .nil)).2.mono ?_
    rintro e w' ⟨v', κ, rfl, h2, h3, h4⟩
    obtain ⟨i, rfl, h5, h6⟩ := ptr_new h3
    exact ⟨i.c, rfl, κ, i, h2, h4, h5, rfl, h6⟩
  have hO : ∀ g w, At W0 κ0 σc (σ.n + 1) g w → Calls Tryd.prog 34 #[.pointer (some ⟨g, 0, none⟩), tyV (a1, a2, a3, a4, a5, a6), tyV (b1, b2, b3, b4, b5, b6)] w fun e' w' => e' = .returned (.int .i64 e) ∧ At W0 κ0 σ4 (σ.n + 1) g w' := by
    rintro g w ⟨κ, i, k1, k2, k3, rfl, k5⟩
    rw [← hxc, ← hyc] at hEv
    refine (call_sound hn hm hG OvOK.none hEv k2 (.cons (vr_new k3 k5) (.cons (hva0.monoM k1.1) (.cons (hvb0.monoM k1.1) .nil)))).mono ?_
    rintro e' w' ⟨v', κ', rfl, h2, h3, h4⟩
    cases h3
    exact ⟨rfl, κ', i, Inj.le_trans k1 h2, h4, h2.1 _ _ _ k3, rfl, k5⟩
  have c1 : ∀ g w', At W0 κ0 σc (σ.n + 1) g w' → Loc w' W.heap.size (a1, a2, a3, a4, a5, a6) ∧ Loc w' (W.heap.size + 1) (b1, b2, b3, b4, b5, b6) := by
    rintro g w' ⟨κ, i, k1, k2, _⟩
    exact ⟨Loc.of (k2.kept _ _ (k1.2.2 _ _ kA)).1, Loc.of (k2.kept _ _ (k1.2.2 _ _ kB)).1⟩
  have back : ∀ g w', At W0 κ0 σ4 (σ.n + 1) g w' → Rel κ0 W0 σ w' := by
    rintro g w' ⟨κ, i, k1, k2, _⟩
    exact R2.forget k1 k2 hF04
  by_cases he : e = 0
  case neg =>
    rw [show decide (e = 0) = false by simpa using he] at h
    simp only [cond_false, Option.some.injEq, Prod.mk.injEq] at h
    obtain ⟨rfl, rfl⟩ := h
    refine unify_any SB SO a1 a2 a3 a4 a5 a6 b1 b2 b3 b4 b5 b6 W _ (goodM x) (goodM y) e (Rel κ0 W0 σ) (At W0 κ0 σc (σ.n + 1)) (At W0 κ0 σ4 (σ.n + 1)) R2 hga hgb c0 (fun h => by rw [hgd] at h; cases h)
      (fun _ _ => hC) c1 hO (fun _ g w hw => ⟨_, κ0, rfl, hle0, .int _ _, back g w hw⟩) (fun _ => false) (fun _ => true) (fun h => absurd h he) (fun _ _ _ _ => False) (fun h => absurd h he) (fun _ _ _ _ _ h => h.elim) (fun _ _ _ _ _ h => h.elim) (fun _ _ _ _ _ h => h.elim) (fun _ _ _ _ h => h.elim)
  case pos =>
  subst he
  simp only [decide_true, cond_true] at h
  replace h := bif_opt h
  obtain ⟨hck', h⟩ := h
  simp only [Bool.and_eq_true, Nat.ble_eq] at hck'
  have hlen' : (esOf S').length ≤ 100000 := by simpa [esOf] using hck'.2
  have hmap4 : σ4.getMap σ.n = some (esOf S') := hSW4.sub.map
  have c2 : ∀ g w, At W0 κ0 σ4 (σ.n + 1) g w → ∃ M n D0, w.cell? ⟨g, 1, none⟩ = some (.map (some M)) ∧ w.ownsMap Tryd.prog 3 heldR M n D0 ∧ Go.Maps.size D0 ≤ maxLen ∧ ∀ m : Int, Go.Maps.has D0 (.int .i64 m) = true ↔ S'.any (fun p => p.1 == m) = true := by
    rintro g w ⟨κ, i, k1, k2, k3, k4, k5⟩
    obtain ⟨i2, q1, q2⟩ := At.cell k2 hSW4.st k3 k4 k5
    obtain ⟨n, D0, h1, h2, _, h4⟩ := map_read k2 hmap4 hck'.1 hlen' q1
    refine ⟨i2.c, n, D0, q2, h1, h2, fun m => (h4 m).trans ?_⟩
    rw [List.any_eq_true]
    constructor
    · rintro ⟨p, hp, e⟩
      obtain ⟨q, hq, rfl⟩ := List.mem_map.1 hp
      simp only [Value.int.injEq, true_and] at e
      exact ⟨q, hq, by simpa using e⟩
    · rintro ⟨q, hq, e⟩
      exact ⟨_, List.mem_map.2 ⟨q, hq, rfl⟩, by simpa using e⟩
  have hF4r : Frm σ (σ4.put σ.n (.rom (esOf S'))) NoB := hF04.fresh (Frm.put σ4 σ.n _ hSW4.lt) fun j hj h => by omega
  have backR : ∀ g M I w, Ranging W0 κ0 (σ4.put σ.n (.rom (esOf S'))) (σ.n + 1) σ.n g M I w → Rel κ0 W0 σ w := by
    rintro g M I w ⟨κ, i, i2, oM, h1, R3, _⟩
    exact R2.forget h1 R3 hF4r
  have hFr : Frm σ4 (σ4.put σ.n (.rom (esOf S'))) (· = σ.n) := Frm.put σ4 σ.n _ hSW4.lt
  have hSr : SubIn (σ4.put σ.n (.rom (esOf S'))) (σ.n + 1) σ.n nx S' := ⟨hFr.st hSW4.st (by omega), hSW4.lt, by simp [AHeap.getMap, get_put_same], fun p hp => (hSW4.full p hp).stepM hFr hSW4.isMap⟩
  have hSm : ∀ g M I w m u, Ranging W0 κ0 (σ4.put σ.n (.rom (esOf S'))) (σ.n + 1) σ.n g M I w → smallM UF S' (varT m) = some u → Calls Tryd.prog 35 #[.pointer (some ⟨g, 0, none⟩), tyV (7, ⟨#[]⟩, m, none, 0, 0)] w fun e w' => e = .returned (.bool u) ∧ Ranging W0 κ0 (σ4.put σ.n (.rom (esOf S'))) (σ.n + 1) σ.n g M I w' ∧ w'.heap[M]? = w.heap[M]? ∧ w'.heap[I]? = w.heap[I]? := fun g M I w m u hR hu => by
    refine ranging_call hn hm hG hR (wp_tsmall noOv_T hSr (varT_full _ m) hu) fun κ i k1 k2 k3 => ?_
    subst k2
    refine .cons (vr_new k1 k3) (.cons ?_ .nil)
    exact .agg rfl fun j v v' a b => by
      match j, a, b with
      | 0, a, b => cases a; cases b; exact .int _ _
      | 1, a, b => cases a; cases b; exact .string _
      | 2, a, b => cases a; cases b; exact .int _ _
      | 3, a, b => cases a; cases b; exact .sliceNil _ _
  have hS3 : ∀ w1 : Option Bool, allSmall UF S' S' = w1 → w1 ≠ none → ∀ g M I w m, Ranging W0 κ0 (σ4.put σ.n (.rom (esOf S'))) (σ.n + 1) σ.n g M I w → (S'.any fun p => p.1 == m) = true →
      Calls Tryd.prog 35 #[.pointer (some ⟨g, 0, none⟩), tyV (7, ⟨#[]⟩, m, none, 0, 0)] w fun e w' => e = .returned (.bool (smallM UF S' (varT m) == some true)) ∧ Ranging W0 κ0 (σ4.put σ.n (.rom (esOf S'))) (σ.n + 1) σ.n g M I w' ∧ w'.heap[M]? = w.heap[M]? ∧ w'.heap[I]? = w.heap[I]? := by
    intro w1 h1 h2 g M I w m hR hdom
    obtain ⟨p, hp, e⟩ := List.any_eq_true.1 hdom
    replace e : p.1 = m := by simpa using e
    subst e
    obtain ⟨w2, rfl⟩ := Option.ne_none_iff_exists'.1 h2
    obtain ⟨u, hu⟩ := allSmall_some h1 p hp
    have := hSm g M I w p.1 u hR hu
    rw [hu]
    cases u <;> exact this
  cases hall : allSmall UF S' S' with
  | none => rw [hall] at h; cases h
  | some all =>
  rw [hall] at h
  cases all with
  | false =>
    simp only [Option.some.injEq, Prod.mk.injEq] at h
    obtain ⟨rfl, rfl⟩ := h
    refine unify_any SB SO a1 a2 a3 a4 a5 a6 b1 b2 b3 b4 b5 b6 W _ (goodM x) (goodM y) 0 (Rel κ0 W0 σ) (At W0 κ0 σc (σ.n + 1)) (At W0 κ0 σ4 (σ.n + 1)) R2 hga hgb c0 (fun h => by rw [hgd] at h; cases h)
      (fun _ _ => hC) c1 hO (fun h => absurd rfl h) (fun m => S'.any fun p => p.1 == m) (fun m => smallM UF S' (varT m) == some true) (fun _ => c2) (fun g M I w => Ranging W0 κ0 (σ4.put σ.n (.rom (esOf S'))) (σ.n + 1) σ.n g M I w)
      (fun _ g M w w0 hw hM hg hs => ranging_start hw hSW4.st hSW4.map hM hg hs) (fun g M I w w1 hw hg hs => hw.next hg hs) (hS3 _ hall nofun)
      (fun g M I w m hw _ _ => ⟨_, κ0, rfl, hle0, .int _ _, backR g M I w hw⟩) (fun g M I w hw hsm => ?_)
    obtain ⟨p, hp, hp2⟩ := allSmall_false hall
    have := hsm p.1 (List.any_eq_true.2 ⟨p, hp, by simp⟩)
    rw [hp2] at this
    cases this
  | true =>
    simp only at h
    split at h
    case h_2 => cases h
    rename_i σ' hst
    simp only [Option.some.injEq, Prod.mk.injEq] at h
    obtain ⟨rfl, rfl⟩ := h
    refine unify_any SB SO a1 a2 a3 a4 a5 a6 b1 b2 b3 b4 b5 b6 W _ (goodM x) (goodM y) 0 (Rel κ0 W0 σ) (At W0 κ0 σc (σ.n + 1)) (At W0 κ0 σ4 (σ.n + 1)) R2 hga hgb c0 (fun h => by rw [hgd] at h; cases h)
      (fun _ _ => hC) c1 hO (fun h => absurd rfl h) (fun m => S'.any fun p => p.1 == m) (fun m => smallM UF S' (varT m) == some true) (fun _ => c2) (fun g M I w => Ranging W0 κ0 (σ4.put σ.n (.rom (esOf S'))) (σ.n + 1) σ.n g M I w)
      (fun _ g M w w0 hw hM hg hs => ranging_start hw hSW4.st hSW4.map hM hg hs) (fun g M I w w1 hw hg hs => hw.next hg hs) (hS3 _ hall nofun)
      (fun g M I w m _ hd hs => ?_) (fun g M I w hw _ => ?_)
    · obtain ⟨p, hp, e⟩ := List.any_eq_true.1 hd
      replace e : p.1 = m := by simpa using e
      have := allSmall_true hall p hp
      rw [e] at this
      rw [this] at hs
      cases hs
    · have R0 := backR g M I w hw
      obtain ⟨κ, i, i2, oM, h1, R3, h3, h4, h5, h6, h7, h8, h9, h10, h11, h12, h13, h14⟩ := hw
      -- the map's cell
      obtain ⟨i2', q1, q2⟩ := At.cell R3 hSr.st h3 h4 h5
      rw [h6] at q1
      cases q1
      rw [h7] at q2
      -- the entries' values hang on what was there before
      have hP : ∀ p ∈ S', Hung κ0 W0.heap.size σ p.2 := by
        refine oneM_pres (fun t ht u hu => ht.arg R2 hu) (fun n => varT_hung n) UF S x y 0 S' (fun p hp => ⟨⟨UF, readS_read hS p hp⟩, ?_⟩) ⟨⟨UF, by rw [(readT_ok hx).1]; exact hx⟩, _, hxc ▸ hva0⟩ ⟨⟨UF, by rw [(readT_ok hy).1]; exact hy⟩, _, hyc ▸ hvb0⟩ hone
        obtain ⟨_, vs', hvl, _, _⟩ := rdN_sound R2 (ha.mono hle0.1) hrd
        obtain ⟨y0, y1, rfl⟩ : ∃ y0 y1, vs' = [y0, y1] := by
          have := hvl.1
          match vs', this with
          | [y0, y1], _ => exact ⟨y0, y1, rfl⟩
        obtain ⟨i3, _, hi3⟩ := (show VR κ0 W0.heap.size (.map (some r)) y1 from hvl.2 1 _ _ rfl rfl).map_inv
        obtain ⟨i', _, ents, clock, _, hEO⟩ := R2.map r es _ _ (getMap_inv hes) hi3
        obtain ⟨es', hp1, _, hp3⟩ := hEO.order
        have hm : (Value.int .i64 p.1, Value.agg p.2.c.toArray) ∈ es := heS ▸ List.mem_map.2 ⟨p, hp, rfl⟩
        obtain ⟨j, hj, e⟩ := List.mem_iff_getElem.1 (hp1.mem_iff.2 hm)
        exact ⟨_, (hp3.2 j _ _ _ (by rw [List.getElem?_eq_getElem hj, e]) (List.getElem?_eq_getElem (by rw [← hp3.1]; exact hj))).2⟩
      obtain ⟨i2', q3, ents, clock, q4, q5⟩ := R3.map σ.n (esOf S') _ _ (.inr (get_put_same _ _ _)) h6
      rw [h6] at q3
      cases q3
      rw [h7] at q4
      have hE := ents_back h1.1 (fun p hp => (hP p hp).2) q5
      have hno : ∀ j v i', κ0 j v = some i' → i'.c ≠ M := fun j v i' hi' e => by
        have := R3.inj _ _ _ _ _ _ (h1.1 _ _ _ hi') h6 (by rw [e, h7])
        subst this
        exact absurd hi' (by rw [R2.no_new]; nofun)
      have hMW : W0.heap.size ≤ M := by
        have := (R3.dom _ _ _ h6).2.1
        omega
      obtain ⟨m1, m2, m3⟩ := R0.linkMap q4 hE hMW hno h14
      unfold stC at hst
      split at hst
      case h_2 => cases hst
      rename_i σ'' hwr
      simp only [Option.some.injEq, Prod.mk.injEq] at hst
      obtain ⟨_, rfl⟩ := hst
      have ha1 := ((ha.mono hle0.1).mono m1.1).add 1
      obtain ⟨⟨y1, w1⟩, w2, w3⟩ := wr_cell m2 ha1 hwr m3
      exact ⟨y1, w1, w2, q2, _, _, rfl, Inj.le_trans hle0 m1, .int _ _, w3⟩
end
end Go.Proofs.YtoilldfibaeokaaDoor
