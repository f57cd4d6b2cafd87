/- TabF, Awk, CoverAny, Shelf -/
import Derived.Ground.NamesProg
import Derived.Shelf.Unicode.PredsPay
import Derived.Shelf.Unicode.DecodeAny
import Derived.Test.YtadmleckoibeeaaGreatDoorProg
import Derived.Test.YtadmleckoibeeaaGreatDoorP6
namespace Go.Pg
def Tri.bnd : Tri → Nat
 | .nil => 0
 | .node _ l r => max 1 (max (2 * l.bnd) (bif Nat.beq r.bnd 0 then 0 else 2 * r.bnd + 1))
theorem Tri.bnd_ok : ∀ (t : Tri) (j : Nat), t.bnd ≤ j → t.get j = none
 | .nil, j, _ => by cases j <;> rfl
 | .node v l r, j, h => by
  unfold Tri.bnd at h
  cases j with
  | zero => omega
  | succ m =>
   unfold Tri.get
   simp only
   cases hm : Nat.beq (m % 2) 0 with
   | true =>
    have : m % 2 = 0 := Nat.eq_of_beq_eq_true hm
    exact Tri.bnd_ok l _ (by omega)
   | false =>
    have hm' : m % 2 ≠ 0 := fun e => by rw [e] at hm; cases hm
    refine Tri.bnd_ok r _ ?_
    cases hr : Nat.beq r.bnd 0 with
    | true =>
     have := Nat.eq_of_beq_eq_true hr
     omega
    | false =>
     rw [hr] at h
     simp only [cond_false] at h
     omega
def goodR : Option (Value × AHeap) → Bool
 | some (.bool b, σ) => b && Nat.ble σ.mem.bnd σ.n
 | _ => false
def oldR (old : Addr → Option Value) : Option (Value × AHeap) → Addr → Option Value
 | some (_, σ) => σ.old
 | none => old
theorem WpF.tabQ {P : Program} {ov : Ov} {tab : Tab} (ht : TabOK P tab) {f : FuncId} {args : List Value} {old : Addr → Option Value} (n : Nat) (h : goodR (execTab ov tab n f args (startH old)) = true) (ho : oldR old (execTab ov tab n f args (startH old)) = old) :
  WpF P ov f args (startH old) fun v σ' => v = .bool true ∧ σ'.old = old ∧ Fresh σ' := by
 cases hx : execTab ov tab n f args (startH old) with
 | none => rw [hx] at h; cases h
 | some r =>
  obtain ⟨v, σ'⟩ := r
  rw [hx] at h ho
  refine ⟨v, σ', EvF.tab ht n hx, ?_⟩
  unfold goodR at h
  split at h
  ·rename_i heq
   simp only [Option.some.injEq, Prod.mk.injEq] at heq
   obtain ⟨rfl, rfl⟩ := heq
   simp only [Bool.and_eq_true, Nat.ble_eq] at h
   exact ⟨by rw [h.1], ho, fun j hj => Tri.bnd_ok _ _ (Nat.le_trans h.2 hj)⟩
  ·cases h
end Go.Pg
namespace Go.Pg
theorem awake8 (old : Addr → Option Value) : WpF PROG ovD 8 [] (startH old) fun v σ' => v = .bool true ∧ σ'.old = old ∧ Fresh σ' :=
 WpF.tabQ TAB_ok 1000000 (by kernel_rfl) (by kernel_rfl)
end Go.Pg
namespace Go.Pg
open Go.Proofs Go.Utf8 Go.Lib
set_option linter.unusedSimpArgs false
section
variable {σ : AHeap} {Y : Nat → Prop}
theorem wp_one {P : Program} {ov : Ov} (p : Int) {g : Option Addr → Nat → Nat → Pg} {Q : Post} (K : ∀ σ', Frm σ σ' NoB → RI σ' (fun j => j < σ.n) (some ⟨σ.n, 0, some 1⟩) 1 [p] → Wp P ov (g (some ⟨σ.n, 0, some 1⟩) 1 1) σ' Q) :
  Wp P ov (.act (bdSl 1 1 [.int .i64 p]) fun v => asSlice v g) σ Q := by
 rw [wp_act, bdSl_eq]
 simp only [asSlice_slice]
 exact K _ (Frm.new _ _ _ _) (RI.own (b := σ.n) (.inr ⟨0, 1, rfl, Row.new σ 1 [.int .i64 p] 1 (by decide) rfl (by simp [one])⟩) fun _ h => by omega)
theorem wp_oneR {P : Program} {ov : Ov} {q : Option Addr} {k : Nat} {l : List Int} (h : RI σ Y q k l) {g : Option Addr → Nat → Nat → Pg} {Q : Post} (K : ∀ σ', Frm σ σ' NoB → RowOf σ' (fun j => Y j ∧ j < σ.n) 1 (rwR σ' (fun j => Y j ∧ j < σ.n)) (some ⟨σ.n, 0, some 1⟩) [l] → Wp P ov (g (some ⟨σ.n, 0, some 1⟩) 1 1) σ' Q) :
  Wp P ov (.act (bdSl 1 1 [.slice q l.length k]) fun v => asSlice v g) σ Q := by
 rw [wp_act, bdSl_eq]
 simp only [asSlice_slice]
 have hF : Frm σ (σ.newBlk [.slice q l.length k] 1) NoB := Frm.new _ _ _ _
 refine K _ hF (RowOf.own (css := [[.slice q l.length k]]) (Row.new σ 1 [.slice q l.length k] 1 (by decide) rfl (by simp [one])) (by omega) rfl (by simp) fun i h1 h2 => ?_)
 have : i = 0 := by simpa using h1
 subst this
 exact ⟨q, k, rfl, h.step (S := NoB) hF (fun _ _ h => h.elim) fun _ _ h => h.1⟩
end
theorem RI.low {σ : AHeap} {Y : Nat → Prop} {q : Option Addr} {k : Nat} {l : List Int} (h : RI σ Y q k l) : RI σ NoB q k l := h.step (S := NoB) (Frm.refl _ _) (fun _ _ h => h.elim) fun _ _ h => h.elim
theorem TreeB.low {σ : AHeap} {Y : Nat → Prop} {pn pd : Option Addr} {N : List NV} {D : List Dc} (h : TreeB σ Y pn N pd D) : TreeB σ NoB pn N pd D := h.step (S := NoB) (Frm.refl _ _) (fun _ _ h => h.elim) fun _ _ h => h.elim
theorem lowRows {σ : AHeap} {Y : Nat → Prop} {q : Option Addr} {L : List (List Int)} (h : RowOf σ Y 1 (rwR σ Y) q L) : RowOf σ NoB 1 (rwR σ NoB) q L :=
 RowOf.step (S := NoB) (Frm.refl _ _) (fun _ _ h => h.elim) (fun _ _ h => h.elim) (fun _ _ h => rwR_mono _ _ _ _ _ _ _ (Frm.refl _ NoB) (fun _ _ h => h.elim) (fun _ _ h => h.elim) h) h
theorem wp_useful1 {σ : AHeap} {N : List NV} {D : List Dc} {pn pd : Option Addr} {cn cd : Nat} {q : Option Addr} {k : Nat} {L : List (List Int)} (h : TreeB σ NoB pn N pd D) (hL : RowOf σ NoB 1 (rwR σ NoB) q L) (hl : L.length ≤ 1000000) (hw : ∀ r ∈ L, r.length = 1) {q2 : Option Addr} {k2 : Nat} {p : Int} (hR : RI σ NoB q2 k2 [p]) :
  WpF PROG ovD 17 [trV pn N.length cn pd D.length cd, .slice q L.length k, .slice q2 1 k2] σ fun v σ' => v = .bool (usefulC N D 10001 L [p] 0).1 ∧ Frm σ σ' NoB := by
 have key := wp_Useful17 (cn := cn) (cd := cd) (k := k) h hL hl hR (by simp)
 rw [show [p].length = 1 from rfl, wideC_same hw] at key
 exact key
theorem coverAny_true (s0 : ByteArray) (_ : s0.size ≤ maxLen) : WpF PROG ovD 6 [.string s0] (startH (tabOld tabsD)) fun v _ => v = .bool true := by
 refine WpF.of (T6_eq _) rfl ?_
 rw [T6, wp_call]
 refine (awake8 _).mono ?_
 rintro v σ ⟨rfl, _, _⟩
 rw [← mkB_self s0]
 generalize s0.data.toList = S
 simp only [wpS]
 rw [wp_bif, if_neg (by simp), wp_call]
 refine wp_made12 S ?_ ?_
 ·intro _ pn cn pd cd σ1 hF1
  simp only [wpS]
  refine wp_newQ fun σ2 hF2 hn2 hS2 => ?_
  refine wp_stQ hS2 rfl rfl fun σ3 hF3 hn3 hS3 => ?_
  rw [wp_join, wp_bif, if_neg (by simp)]
  simp only [wpS, T6k9]
  rw [wp_bif, if_pos rfl]
  simp only [wpS]
  exact ⟨_, rfl, rfl⟩
 intro N D _ hdoc pn cn pd cd σ1 hF1 hT1 hK hD hC hA hcn
 have hg : GoodT N D := docP_good hdoc
 have hNm := hg.most
 have hB1 : TreeB σ1 (fun j => j < σ.n) pn N pd D := ⟨hT1, by omega, hD, hC, hK, hA⟩
 simp only [wpS]
 refine wp_newQ fun σ2 hF2 hn2 hS2 => ?_
 generalize hV : σ1.n = V at hS2
 refine wp_stQ hS2 rfl rfl fun σ3 hF3 hn3 hS3 => ?_
 have hF13 : Frm σ1 σ3 NoB := hF2.fresh hF3 fun j hj h => by omega
 have hB3 := hB1.frm hF13
 rw [wp_join, wp_bif, if_pos (by rfl), wp_ldF hS3 (v := .slice pn N.length cn) rfl]
 simp only [wpS, T6k9]
 rw [wp_bif]
 by_cases h80 : 80 < N.length
 ·rw [if_pos (by simp; omega)]
  simp only [wpS]
  exact ⟨_, rfl, rfl⟩
 rw [if_neg (by simp; omega)]
 refine Wp.count N.length (fun i st σ' => σ' = σ3 ∧ ∃ any : Int, st = [.int .i64 ((i : Nat) : Int), .int .i64 any] ∧ (any = -1 ∨ ∃ a : Nat, any = (a : Int) ∧ ∃ h : a < N.length, N[a].x.k = 21 ∨ N[a].x.k = 22)) ⟨rfl, -1, rfl, .inl rfl⟩ ?_ ?_
 ·rintro i st σ4 hi ⟨rfl, any, rfl, hany⟩
  have ei : wi64 ((i : Int) + 1) = ((i + 1 : Nat) : Int) := by rw [wi64_in (by omega)]; omega
  unfold T6b0
  simp only [wpS]
  rw [wp_ldF hS3 (v := .slice pn N.length cn) rfl]
  simp only [wpS]
  rw [wp_bif, if_pos (by simp; omega), wp_join, wp_join, wp_ldF hS3 (v := .slice pn N.length cn) rfl]
  simp only [wpS]
  refine wp_cell hB3.tree.nodes hi rfl (o := 0) (by decide) fun cs hcs => ?_
  obtain ⟨q, k, rfl, _, _⟩ := hcs
  refine ⟨_, rfl, ?_⟩
  simp only [wpS]
  rw [wp_bif]
  by_cases c1 : N[i].x.k = 21
  ·rw [if_neg (by simp [c1])]
   simp only [wpS, T6k1]
   rw [wp_bif, if_pos rfl]
   simp only [wpS, T6k2, ei]
   exact ⟨rfl, _, rfl, .inr ⟨i, rfl, hi, .inl c1⟩⟩
  ·rw [if_pos (by simp [c1]), wp_ldF hS3 (v := .slice pn N.length cn) rfl]
   simp only [wpS]
   refine wp_cell hB3.tree.nodes hi rfl (o := 0) (by decide) fun cs hcs => ?_
   obtain ⟨q, k, rfl, _, _⟩ := hcs
   refine ⟨_, rfl, ?_⟩
   simp only [wpS, T6k1]
   rw [wp_bif]
   by_cases c2 : N[i].x.k = 22
   ·rw [if_pos (by simpa using c2)]
    simp only [wpS, T6k2, ei]
    exact ⟨rfl, _, rfl, .inr ⟨i, rfl, hi, .inr c2⟩⟩
   ·rw [if_neg (by simpa using c2)]
    simp only [wpS, T6k2, ei]
    exact ⟨rfl, _, rfl, hany⟩
 rintro st σ4 ⟨rfl, any, rfl, hany⟩
 unfold T6b0
 simp only [wpS]
 rw [wp_ldF hS3 (v := .slice pn N.length cn) rfl]
 simp only [wpS]
 rw [wp_bif, if_neg (by simp)]
 simp only [wpS, T6k8]
 refine Wp.count N.length (fun i st σ' => ∃ b : Bool, st = [.int .i64 ((i : Nat) : Int), .bool b] ∧ Frm σ4 σ' NoB) ⟨false, rfl, Frm.refl _ _⟩ ?_ ?_
 ·rintro i st σ5 hi ⟨b, rfl, hF5⟩
  have ei : wi64 ((i : Int) + 1) = ((i + 1 : Nat) : Int) := by rw [wi64_in (by omega)]; omega
  have hS5 := hF5.stN hS3
  have hB5 := hB3.frm hF5
  unfold T6b1
  simp only [wpS]
  rw [wp_ldF hS5 (v := .slice pn N.length cn) rfl]
  simp only [wpS]
  rw [wp_bif, if_pos (by simp; omega), wp_join, wp_join, wp_ldF hS5 (v := .slice pn N.length cn) rfl]
  simp only [wpS]
  refine wp_cell hB5.tree.nodes hi rfl (o := 0) (by decide) fun cs hcs => ?_
  obtain ⟨q, k, rfl, _, _⟩ := hcs
  refine ⟨_, rfl, ?_⟩
  simp only [wpS]
  rw [wp_bif]
  have skip : ∀ (τ : AHeap), Frm σ4 τ NoB → Wp PROG ovD (T6k5 b ⟨V, 0, some 0⟩ ((i : Nat) : Int) any .normal [.bool true]) τ fun e vs σ' => Wp PROG ovD (T6k6 ((i : Nat) : Int) e vs) σ' fun e st' σ' => match e with
    | .normal => ∃ b : Bool, st' = [.int .i64 ((i + 1 : Nat) : Int), .bool b] ∧ Frm σ4 σ' NoB
    | e => Wp PROG ovD (T6k7 e st') σ' fun _ vs _ => ∃ v, vs = [v] ∧ v = .bool true := by
   intro τ hτ
   simp only [wpS, T6k5]
   rw [wp_bif, if_pos rfl]
   simp only [wpS, T6k6, ei]
   exact ⟨b, rfl, hτ⟩
  by_cases ck : N[i].x.k < 21
  ·rw [if_neg (by simp; omega)]
   simp only [wpS]
   exact skip σ5 hF5
  rw [if_pos (by simp; omega), wp_ldAll hS5 2 rfl]
  simp only [wpS]
  rw [wp_call]
  refine WpF.mono (wp_inner19 hg N.length i σ5 (fun j => j < σ.n) hB5 (by omega) hi) ?_
  rintro _ σ6 ⟨⟨b3, rfl⟩, hF6⟩
  simp only [wpS]
  have hF46 := hF5.seq hF6
  cases b3 with
  | false => exact skip σ6 hF46
  | true =>
  have hS6 := hF6.stN hS5
  have hB6 := (hB5.frm hF6).low
  simp only [wpS, T6k5]
  rw [wp_bif, if_neg (by simp)]
  simp only [wpS]
  rw [wp_ldAll hS6 2 rfl]
  simp only [wpS]
  refine wp_one _ fun σ7 hF7 hR7 => ?_
  rw [wp_call]
  refine WpF.mono (wp_useful1 (L := []) (q := none) (k := 0) (hB6.frm hF7) RowOf.nil (by simp) (by simp) hR7.low) ?_
  rintro _ σ8 ⟨rfl, hF8⟩
  rw [useful_first hg hi (by omega)]
  have hF68 := hF7.seq hF8
  simp only [wpS]
  rw [wp_bif, if_pos (by rfl)]
  have hS8 := hF68.stN hS6
  have hB8 := hB6.frm hF68
  rw [wp_ldAll hS8 2 rfl]
  simp only [wpS]
  refine wp_one _ fun σ9 hF9 hR9 => ?_
  refine wp_oneR hR9 fun σa hFa hLa => ?_
  refine wp_one _ fun σb hFb hRb => ?_
  rw [wp_call]
  have hF8b := (hF9.seq hFa).seq hFb
  refine WpF.mono (wp_useful1 (k := 1) (hB8.frm hF8b) ((lowRows hLa).frmM rwR_mono hFb) (by simp) (by simp) hRb.low) ?_
  rintro _ σc ⟨rfl, hFc⟩
  rw [useful_self]
  have hF8c := hF8b.seq hFc
  simp only [wpS, T6k4]
  rw [wp_bif, if_neg (by simp)]
  simp only [wpS]
  have hSc := hF8c.stN hS8
  have hBc := hB8.frm hF8c
  have hF4c := (hF46.seq hF68).seq hF8c
  rw [wp_bif]
  have done : ∀ (τ : AHeap), Frm σ4 τ NoB → Wp PROG ovD (T6k3 b .normal [.bool false]) τ fun e vs σ' => Wp PROG ovD (T6k6 ((i : Nat) : Int) e vs) σ' fun e st' σ' => match e with
    | .normal => ∃ b : Bool, st' = [.int .i64 ((i + 1 : Nat) : Int), .bool b] ∧ Frm σ4 σ' NoB
    | e => Wp PROG ovD (T6k7 e st') σ' fun _ vs _ => ∃ v, vs = [v] ∧ v = .bool true := by
   intro τ hτ
   simp only [wpS, T6k3]
   rw [wp_bif, if_neg (by simp)]
   simp only [wpS, T6k6, ei]
   exact ⟨b, rfl, hτ⟩
  rcases hany with rfl | ⟨a, rfl, ha, hak⟩
  ·rw [if_neg (by simp)]
   simp only [wpS]
   exact done σc hF4c
  rw [if_pos (by simp), wp_ldAll hSc 2 rfl]
  simp only [wpS]
  refine wp_one _ fun σd hFd hRd => ?_
  refine wp_oneR hRd fun σe hFe hLe => ?_
  refine wp_one _ fun σf hFf hRf => ?_
  rw [wp_call]
  have hFcf := (hFd.seq hFe).seq hFf
  refine WpF.mono (wp_useful1 (k := 1) (hBc.frm hFcf) ((lowRows hLe).frmM rwR_mono hFf) (by simp) (by simp) hRf.low) ?_
  rintro _ σg ⟨rfl, hFg⟩
  rw [useful_wild ha hak]
  have hFcg := hFcf.seq hFg
  have hSg := hFcg.stN hSc
  have hBg := hBc.frm hFcg
  simp only [wpS]
  rw [wp_bif, if_pos (by rfl), wp_ldAll hSg 2 rfl]
  simp only [wpS]
  refine wp_one _ fun σh hFh hRh => ?_
  refine wp_oneR hRh fun σi hFi hLi => ?_
  rw [wp_call]
  have hFgi := hFh.seq hFi
  refine WpF.mono (wp_All11 (k := 1) (hBg.frm hFgi) (lowRows hLi) (by simp) (by simp)) ?_
  rintro _ σj ⟨rfl, hFj⟩
  rw [all_wild ha hak]
  simp only [wpS]
  exact done σj ((hF4c.seq hFcg).seq (hFgi.seq hFj))
 ·rintro st σ5 ⟨b, rfl, hF5⟩
  unfold T6b1
  simp only [wpS]
  rw [wp_ldF (hF5.stN hS3) (v := .slice pn N.length cn) rfl]
  simp only [wpS]
  rw [wp_bif, if_neg (by simp)]
  simp only [wpS, T6k7]
  exact ⟨_, rfl, rfl⟩
end Go.Pg
namespace Go.Proofs
open Go.Shelf
def Tryz.laysLetter_ren : Go.Shelf.Ren := ⟨fun | 200 => 88 | 261 => 97 | 311 => 106 | 312 => 107 | n => n, fun | 21 => 21 | 4 => 4 | 51 => 156 | 5 => 5 | 119 => 157 | 0 => 0 | 141 => 159 | 196 => 166 | 193 => 163 | 3 => 3 | 198 => 169 | 49 => 167 | 194 => 164 | 201 => 172 | 226 => 175 | 46 => 176 | 227 => 177 | n => n, fun | 7 => 0 | 8 => 1 | n => n⟩
theorem Tryz.laysLetter : Go.Proofs.Lays.n200 Tryz.prog Tryz.laysLetter_ren := {
 mixed := by kernel_rfl
 f200 := Tryz.func88.trans (congrArg some (by kernel_rfl))
 f261 := Tryz.func97.trans (congrArg some (by kernel_rfl))
 f311 := Tryz.func106.trans (congrArg some (by kernel_rfl))
 f312 := Tryz.func107.trans (congrArg some (by kernel_rfl))
 t0 := Tryz.underlying0
 a0 := Tryz.isAgg0
 z0 := Tryz.sizeOf0
 v0 := Tryz.zeroValue0
 t3 := Tryz.underlying3
 a3 := Tryz.isAgg3
 z3 := Tryz.sizeOf3
 v3 := Tryz.zeroValue3
 t4 := Tryz.underlying4
 a4 := Tryz.isAgg4
 z4 := Tryz.sizeOf4
 v4 := Tryz.zeroValue4
 t5 := Tryz.underlying5
 a5 := Tryz.isAgg5
 z5 := Tryz.sizeOf5
 v5 := Tryz.zeroValue5
 t21 := Tryz.underlying21
 a21 := Tryz.isAgg21
 z21 := Tryz.sizeOf21
 v21 := Tryz.zeroValue21
 t46 := Tryz.underlying176
 a46 := Tryz.isAgg176
 z46 := Tryz.sizeOf176
 v46 := Tryz.zeroValue176
 t49 := Tryz.underlying167
 a49 := Tryz.isAgg167
 z49 := Tryz.sizeOf167
 v49 := Tryz.zeroValue167
 t51 := Tryz.underlying156
 a51 := Tryz.isAgg156
 z51 := Tryz.sizeOf156
 v51 := Tryz.zeroValue156
 t119 := Tryz.underlying157
 a119 := Tryz.isAgg157
 z119 := Tryz.sizeOf157
 t141 := Tryz.underlying159
 a141 := Tryz.isAgg159
 z141 := Tryz.sizeOf159
 v141 := Tryz.zeroValue159
 t193 := Tryz.underlying163
 a193 := Tryz.isAgg163
 z193 := Tryz.sizeOf163
 v193 := Tryz.zeroValue163
 t194 := Tryz.underlying164
 a194 := Tryz.isAgg164
 z194 := Tryz.sizeOf164
 v194 := Tryz.zeroValue164
 t196 := Tryz.underlying166
 a196 := Tryz.isAgg166
 z196 := Tryz.sizeOf166
 v196 := Tryz.zeroValue166
 t198 := Tryz.underlying169
 a198 := Tryz.isAgg169
 z198 := Tryz.sizeOf169
 v198 := Tryz.zeroValue169
 t201 := Tryz.underlying172
 a201 := Tryz.isAgg172
 z201 := Tryz.sizeOf172
 v201 := Tryz.zeroValue172
 t226 := Tryz.underlying175
 a226 := Tryz.isAgg175
 z226 := Tryz.sizeOf175
 v226 := Tryz.zeroValue175
 t227 := Tryz.underlying177
 a227 := Tryz.isAgg177
 z227 := Tryz.sizeOf177
 v227 := Tryz.zeroValue177
 g7 := by kernel_rfl
 g8 := by kernel_rfl }
def Tryz.laysUpper_ren : Go.Shelf.Ren := ⟨fun | 201 => 90 | 261 => 97 | 311 => 106 | 312 => 107 | n => n, fun | 21 => 21 | 4 => 4 | 51 => 156 | 5 => 5 | 119 => 157 | 0 => 0 | 141 => 159 | 196 => 166 | 193 => 163 | 3 => 3 | 198 => 169 | 49 => 167 | 194 => 164 | 201 => 172 | 226 => 175 | 46 => 176 | 227 => 177 | n => n, fun | 7 => 0 | 9 => 2 | n => n⟩
theorem Tryz.laysUpper : Go.Proofs.Lays.n201 Tryz.prog Tryz.laysUpper_ren := {
 mixed := by kernel_rfl
 f201 := Tryz.func90.trans (congrArg some (by kernel_rfl))
 f261 := Tryz.func97.trans (congrArg some (by kernel_rfl))
 f311 := Tryz.func106.trans (congrArg some (by kernel_rfl))
 f312 := Tryz.func107.trans (congrArg some (by kernel_rfl))
 t0 := Tryz.underlying0
 a0 := Tryz.isAgg0
 z0 := Tryz.sizeOf0
 v0 := Tryz.zeroValue0
 t3 := Tryz.underlying3
 a3 := Tryz.isAgg3
 z3 := Tryz.sizeOf3
 v3 := Tryz.zeroValue3
 t4 := Tryz.underlying4
 a4 := Tryz.isAgg4
 z4 := Tryz.sizeOf4
 v4 := Tryz.zeroValue4
 t5 := Tryz.underlying5
 a5 := Tryz.isAgg5
 z5 := Tryz.sizeOf5
 v5 := Tryz.zeroValue5
 t21 := Tryz.underlying21
 a21 := Tryz.isAgg21
 z21 := Tryz.sizeOf21
 v21 := Tryz.zeroValue21
 t46 := Tryz.underlying176
 a46 := Tryz.isAgg176
 z46 := Tryz.sizeOf176
 v46 := Tryz.zeroValue176
 t49 := Tryz.underlying167
 a49 := Tryz.isAgg167
 z49 := Tryz.sizeOf167
 v49 := Tryz.zeroValue167
 t51 := Tryz.underlying156
 a51 := Tryz.isAgg156
 z51 := Tryz.sizeOf156
 v51 := Tryz.zeroValue156
 t119 := Tryz.underlying157
 a119 := Tryz.isAgg157
 z119 := Tryz.sizeOf157
 t141 := Tryz.underlying159
 a141 := Tryz.isAgg159
 z141 := Tryz.sizeOf159
 v141 := Tryz.zeroValue159
 t193 := Tryz.underlying163
 a193 := Tryz.isAgg163
 z193 := Tryz.sizeOf163
 v193 := Tryz.zeroValue163
 t194 := Tryz.underlying164
 a194 := Tryz.isAgg164
 z194 := Tryz.sizeOf164
 v194 := Tryz.zeroValue164
 t196 := Tryz.underlying166
 a196 := Tryz.isAgg166
 z196 := Tryz.sizeOf166
 v196 := Tryz.zeroValue166
 t198 := Tryz.underlying169
 a198 := Tryz.isAgg169
 z198 := Tryz.sizeOf169
 v198 := Tryz.zeroValue169
 t201 := Tryz.underlying172
 a201 := Tryz.isAgg172
 z201 := Tryz.sizeOf172
 v201 := Tryz.zeroValue172
 t226 := Tryz.underlying175
 a226 := Tryz.isAgg175
 z226 := Tryz.sizeOf175
 v226 := Tryz.zeroValue175
 t227 := Tryz.underlying177
 a227 := Tryz.isAgg177
 z227 := Tryz.sizeOf177
 v227 := Tryz.zeroValue177
 g7 := by kernel_rfl
 g9 := by kernel_rfl }
def Tryz.laysDecode_ren : Go.Shelf.Ren := ⟨fun | 197 => 99 | 260 => 109 | n => n, fun | 9 => 9 | 21 => 21 | 3 => 3 | 4 => 4 | 5 => 5 | 105 => 128 | 119 => 157 | 0 => 0 | 46 => 176 | 139 => 180 | 138 => 179 | n => n, fun | 3 => 3 | 4 => 4 | n => n⟩
theorem Tryz.laysDecode : Go.Proofs.Lays.n197 Tryz.prog Tryz.laysDecode_ren := {
 mixed := by kernel_rfl
 f197 := Tryz.func99.trans (congrArg some (by kernel_rfl))
 f260 := Tryz.func109.trans (congrArg some (by kernel_rfl))
 t0 := Tryz.underlying0
 a0 := Tryz.isAgg0
 z0 := Tryz.sizeOf0
 v0 := Tryz.zeroValue0
 t3 := Tryz.underlying3
 a3 := Tryz.isAgg3
 z3 := Tryz.sizeOf3
 v3 := Tryz.zeroValue3
 t4 := Tryz.underlying4
 a4 := Tryz.isAgg4
 z4 := Tryz.sizeOf4
 v4 := Tryz.zeroValue4
 t5 := Tryz.underlying5
 a5 := Tryz.isAgg5
 z5 := Tryz.sizeOf5
 v5 := Tryz.zeroValue5
 t9 := Tryz.underlying9
 a9 := Tryz.isAgg9
 z9 := Tryz.sizeOf9
 v9 := Tryz.zeroValue9
 t21 := Tryz.underlying21
 a21 := Tryz.isAgg21
 z21 := Tryz.sizeOf21
 v21 := Tryz.zeroValue21
 t46 := Tryz.underlying176
 a46 := Tryz.isAgg176
 z46 := Tryz.sizeOf176
 v46 := Tryz.zeroValue176
 t105 := Tryz.underlying128
 a105 := Tryz.isAgg128
 z105 := Tryz.sizeOf128
 v105 := Tryz.zeroValue128
 t119 := Tryz.underlying157
 a119 := Tryz.isAgg157
 z119 := Tryz.sizeOf157
 t138 := Tryz.underlying179
 a138 := Tryz.isAgg179
 z138 := Tryz.sizeOf179
 v138 := Tryz.zeroValue179
 t139 := Tryz.underlying180
 a139 := Tryz.isAgg180
 z139 := Tryz.sizeOf180
 v139 := Tryz.zeroValue180
 g3 := by kernel_rfl
 g4 := by kernel_rfl }
end Go.Proofs
